/- A text of the proof: a verified executor of the program form, or the contracts of the functions that the law reaches. -/
import Derived.Test.YtnlmjeleocelgaaGreatDoorOkRc
set_option linter.all false
namespace Go.Proofs.YtnlmjeleocelgaaGreatDoor
open Go Go.Vx
set_option maxRecDepth 10000
set_option maxHeartbeats 2000000
set_option linter.unusedVariables false
theorem ZcI {r_ : ring_Recorder} {f : Vector Int 64} {power : Int} {r : Int × Bool × Int × ring_Recorder} (h : QT r_ f power = some r) :
 GSpec Tryz.prog gl0 17 [.ptr 0 1 0 0, .agg (List.map C40 f.toList), .int .i64 power] [some ⟨102, [[.own 1 r_.bank.memories.length, .own 2 r_.bank.spots.length, .int .i64 r_.copies, .bool r_.frozen, .bool r_.stopped, .int .i64 r_.last, .bool r_.some_]]⟩, some ⟨26, List.map O26 r_.bank.memories⟩, some ⟨105, List.map R105 r_.bank.spots⟩] (.tuple [.int .i64 r.1, .bool r.2.1, .int .i64 r.2.2.1]) [some ⟨102, [[.own 3 r.2.2.2.bank.memories.length, .own 4 r.2.2.2.bank.spots.length, .int .i64 r.2.2.2.copies, .bool r.2.2.2.frozen, .bool r.2.2.2.stopped, .int .i64 r.2.2.2.last, .bool r.2.2.2.some_]]⟩, none, none, some ⟨26, List.map O26 r.2.2.2.bank.memories⟩, some ⟨105, List.map R105 r.2.2.2.bank.spots⟩] := by
 unfold QT at h
 replace h := Qd h
 refine Qt (by kernel_rfl) Tryz.func17 Y Y<|?_
 intro w0 A W φ0
 refine ZeM (Ent.sel [some 0, some 1, some 2, some 1, some 2] (sr 0 Y (.ptr (r' := 0) _ _ _ Y)<|sr 1 Y (Zcc<|rld<|arD fun _ => Y)<|sd 2 Y Y sn) (.cons Y (ro1 (by exact tZ_102.symm)<|rlc (.own (r' := 3) _ Y)<|rlc (.own (r' := 4) _ Y)<|rlc (.dat Y)<|rlc (.dat Y)<|rlc (.dat Y)<|rlc (.dat Y)<|rlc (.dat Y) rln)<|.dead<|.dead<|.cons Y (roO Xn)<|.cons Y (roM D105) .nil) Y Y)<|QF [some ⟨102, [[.own 3 r_.bank.memories.length, .own 4 r_.bank.spots.length, .int .i64 r_.copies, .bool r_.frozen, .bool r_.stopped, .int .i64 r_.last, .bool r_.some_]]⟩, none, none, some ⟨26, List.map O26 r_.bank.memories⟩, some ⟨105, List.map R105 r_.bank.spots⟩] Y<|Tr<|Rq Y (ZbY (cva<|ov Y) arL tZ_42<|arD fun _ => Y)<|Ra Y<|Ra Y<|Ra Y<|Za<|Zl<|K3 0 2 4 Y<|Tr<|Rm Y<|Rm Y<|bE h fun y h_y h=>Rq Y (ZbA (ZdW h_y) .int<|.cons (ov Y) (View.ptrS (j := 0) (k := 7) Y Y Y (Nat.le_of_ble_eq_true Y)<|.cons (View.ownO Y Y Xn (fun x=>(D26 x).1) ZiQ)<|.cons (View.ownM Y Y D105)<|.cons (Dat.view<|.b Y)<|.cons (Dat.view<|.b Y)<|.cons (Dat.view<|.b Y)<|.cons (Dat.view<|.b Y)<|.cons (Dat.view<|.b Y) .nil)<|.cons (ov Y) (Dat.view<|.b Y) .nil)<|Ra Y<|Za<|K4 0 2 4 9 Y<|Tr<|Rm Y<|R2 XK Y<|Za<|K5 0 2 4 9 23 Y<|If h Y (fun h=>?_) fun h=>?_
 ·
  refine K1 9 Y<|Tr<|Rm Y<|Ra Y<|Ra Y<|Ra Y<|Za<|?_
  obtain rfl := rt h
  exact Zs<|JI [some 0, some 1, some 2, some 3, some 4] Y (.cons (.tmp Y)<|.cons (.tmp Y)<|.cons (.tmp Y) .nil) (.cons Y (ro1 (by exact tZ_102.symm)<|rlc (.own _ Y)<|rlc (.own _ Y)<|rlc (.dat Y)<|rlc (.dat Y)<|rlc (.dat Y)<|rlc (.dat Y)<|rlc (.dat Y) rln)<|.dead<|.dead<|.cons Y (roO Xn)<|.cons Y (roM D105) .nil) Y Y<|Xo<|rlc (.dat Y)<|rlc (.dat Y)<|rlc (.dat Y) rln
 ·
  refine Zm<|Zl<|K3 0 2 4 Y<|Tr<|Rq Y (Xb (ov Y) XT (Qx<|ZB arL) arL)<|bE h fun y2 h_y2 h=>Rq Y (Zq (ZdX h_y2)<|.cons (ov Y) (.aggB<|arD fun _ => Y) .nil)<|Rl tZ_149 Zdf Y<|R2 Zcu Y<|Za<|K4 0 2 4 28 Y<|If h Y (fun h=>?_) fun h=>?_
  ·
   refine K0<|Tr<|Ra Y<|Ra Y<|Ra Y<|Za<|?_
   obtain rfl := rt h
   exact Zs<|JI [some 0, some 1, some 2, some 3, some 4] Y (.cons (.tmp Y)<|.cons (.tmp Y)<|.cons (.tmp Y) .nil) (.cons Y (ro1 (by exact tZ_102.symm)<|rlc (.own _ Y)<|rlc (.own _ Y)<|rlc (.dat Y)<|rlc (.dat Y)<|rlc (.dat Y)<|rlc (.dat Y)<|rlc (.dat Y) rln)<|.dead<|.dead<|.cons Y (roO Xn)<|.cons Y (roM D105) .nil) Y Y<|Xo<|rlc (.dat Y)<|rlc (.dat Y)<|rlc (.dat Y) rln
  ·
   refine Zm<|K3 0 2 4 Y<|Tr<|Rq Y (Xb (ov Y) XT (Qx<|ZB arL) arL)<|bE h fun y3 h_y3 h=>Rq Y (Zq (ZdP h_y3)<|.cons (ov Y) (.aggB<|arD fun _ => Y) .nil)<|Rm Y<|Rq Y (Zr (ov Y) Y)<|Rq Y (Zr (ov Y) Y)<|Ra Y<|Ra Y<|Za<|Zl<|K4 0 2 4 10 Y<|Qj (cw := md0) (by kernel_rfl)<|D1 0 Zj Y<|D1 1 Zj Y<|Dq 2 Y (ZC (ov Y) Y Y)<|Dq 3 Y (Zg (ov Y) Y Y ZcO)<|Dq 4 Y (Zg (ov Y) Y Y Zci)<|Dq 5 Y (Zo (ov Y) Y Y Y Zh1 Y)<|Dq 6 Y (Zdt (ov Y) Y Y ZcD)<|D1 7 Zj Y<|Dq 8 Y (ZC (ov Y) Y Y)<|Dq 9 Y (Zg (ov Y) Y Y Zkv)<|Dq 10 Y (Zo (ov Y) Y Y Y tS3 Y)<|bE h fun y4 h_y4 h=>Dq 11 Y (Zq (Zgz h_y4)<|.cons (ov Y) (.b Y)<|.cons (ov Y) (.b Y)<|.cons (ov Y) (.b Y) .nil)<|D1 12 Qm Y<|Dd<|Zl<|K5 0 2 4 10 12 Y<|Tr<|Rm Y<|Rq Y (ZC (ov Y) Y Y)<|Rq Y (Zg (ov Y) Y Y ZcO)<|Rm Y<|bE h fun y5 h_y5 h=>Rq Y (ZbA (Zfb h_y5) .int<|.cons (ov Y) (View.ptrS (j := 0) (k := 2) Y Y Y (Nat.le_of_ble_eq_true Y)<|.cons (View.ownO Y Y Xn (fun x=>(D26 x).1) ZiQ)<|.cons (View.ownM Y Y D105) .nil)<|.cons (ov Y) (Dat.view<|.b Y) .nil)<|Ra Y<|Za<|K6 0 2 4 10 12 13 Y<|Tr<|Rm Y<|R2 XK Y<|Za<|K7 0 2 4 10 12 13 52 Y<|If h Y (fun h=>?_) fun h=>?_
   ·
    refine K1 13 Y<|Tr<|Rm Y<|Ra Y<|Ra Y<|Ra Y<|Za<|?_
    obtain rfl := rt h
    exact Zs<|JI [some 0, some 1, some 2, some 3, some 4] Y (.cons (.tmp Y)<|.cons (.tmp Y)<|.cons (.tmp Y) .nil) (.cons Y (ro1 (by exact tZ_102.symm)<|rlc (.own _ Y)<|rlc (.own _ Y)<|rlc (.dat Y)<|rlc (.dat Y)<|rlc (.dat Y)<|rlc (.dat Y)<|rlc (.dat Y) rln)<|.dead<|.dead<|.cons Y (roO Xn)<|.cons Y (roM D105) .nil) Y Y<|Xo<|rlc (.dat Y)<|rlc (.dat Y)<|rlc (.dat Y) rln
   ·
    refine Zm<|K5 0 2 4 10 12 Y<|Tr<|Rq Y (Xb (ov Y) XT (Qx<|ZB arL) arL)<|bE h fun y6 h_y6 h=>Rq Y (Zq (Zga h_y6)<|.cons (ov Y) (.aggB<|arD fun _ => Y) .nil)<|Rm Y<|Rq Y (Zr (ov Y) Y)<|Rq Y (Zr (ov Y) Y)<|Ra Y<|Ra Y<|Za<|J8 (fun j => (.inr j)) (fun memories spots copies frozen stopped last some_ power2=>⟨[(0, .ptr 0 1 0 0), (2, .int .i64 power2), (10, .int .i64 y3.1)], [some ⟨102, [[.own 3 memories.length, .own 4 spots.length, .int .i64 copies, .bool frozen, .bool stopped, .int .i64 last, .bool some_]]⟩, none, none, some ⟨26, List.map O26 memories⟩, some ⟨105, List.map R105 spots⟩]⟩) h (fun h=>?_) fun memories spots copies frozen stopped last some_ power2 h=>?_
    ·
     refine K5 0 2 10 12 14 Y<|Tr<|Rm Y<|Rl tZ_3 QH Y<|Rm Y<|Za<|Zk<|?_
     obtain ⟨r1, hl1, ho1⟩ := QY h
     refine L9 (fun memories2 spots2 copies2 frozen2 stopped2 last2 some_2 power3 i=>⟨[(0, .ptr 0 1 0 0), (2, .int .i64 power3), (10, .int .i64 y3.1), (14, .sl 5 (List.map R5 y6.1)), (59, .sl 3 (List.map R3 y4)), (60, .int .i64 (y4.length : Int)), (61, .int .i64 i)], [some ⟨102, [[.own 3 memories2.length, .own 4 spots2.length, .int .i64 copies2, .bool frozen2, .bool stopped2, .int .i64 last2, .bool some_2]]⟩, none, none, some ⟨26, List.map O26 memories2⟩, some ⟨105, List.map R105 spots2⟩]⟩) hl1 (ES [some 0, some 1, some 2, some 3, some 4] (hhp := .cons Y (ro1 (by exact tZ_102.symm)<|rlc (.own _ Y)<|rlc (.own _ Y)<|rlc (.dat Y)<|rlc (.dat Y)<|rlc (.dat Y)<|rlc (.dat Y)<|rlc (.dat Y) rln)<|.dead<|.dead<|.cons Y (roO Xn)<|.cons Y (roM D105) .nil)) fun n1 memories2 spots2 copies2 frozen2 stopped2 last2 some_2 power3 i h=>?_
     unfold Q3 at h
     refine Tr<|R2 Z1 Y<|Za<|Zl<|If h Y (fun h=>?_) fun h=>?_
     ·
      refine Zm<|Zl<|Zk<|K7 0 2 10 14 59 60 61 Y<|Tr<|bE h fun x h_x h=>Rq Y (Z4 (ov Y) (ov Y) QH h_x)<|Rq Y (Zi (ov Y) tS3 Y)<|Ra Y<|Za<|K8 0 2 10 14 17 59 60 61 Y<|Tr<|Ra Y<|Za<|Zl<|Qj (cw := ⟨true, false, [], [], []⟩) (by kernel_rfl)<|D1 0 Zj Y<|Dq 1 Y (ZC (ov Y) Y Y)<|Dq 2 Y (Zg (ov Y) Y Y ZcO)<|D1 3 Zj Y<|D1 4 Zj Y<|D1 5 Zj Y<|Dq 6 Y (Ziz (QX (ov Y) tZ_5) Qg<|Zfx _ _)<|D1 7 Zj Y<|Dq 8 Y (Ziz (QX (ov Y) tZ_5) Qg<|Zfx _ _)<|bE h fun l h_l h=>Dq 9 Y (Zju (ov Y) Qg (ov Y) (ov Y) h_l)<|D1 10 Zj Y<|bE h fun y7 h_y7 h=>Do 11 Y (Zv [0, 3, 4] (Zcb h_y7) (.cons (ov Y) (.ptr _ _ _ Y)<|.cons (ov Y) (.dat Y)<|.cons (ov Y) (.dat Y)<|.cons (ov Y) (.dat Y) .nil) (.cons Y (ro1 (by exact tZ_102.symm)<|rlc (.own _ Y)<|rlc (.own _ Y)<|rlc (.dat Y)<|rlc (.dat Y)<|rlc (.dat Y)<|rlc (.dat Y)<|rlc (.dat Y) rln)<|.cons Y (roO Xn)<|.cons Y (roM D105) .nil) Y (.lent 0 (.inl Y) Y (ro1 (by exact tZ_102.symm)<|rlc (.own _<|.inr ⟨Nat.le_of_ble_eq_true Y, Y⟩)<|rlc (.own _<|.inr ⟨Nat.le_of_ble_eq_true Y, Y⟩)<|rlc (.dat Y)<|rlc (.dat Y)<|rlc (.dat Y)<|rlc (.dat Y)<|rlc (.dat Y) rln)<|.none<|.none<|.none<|.none<|.lent 3 (.inr ⟨Nat.le_of_ble_eq_true Y, Y⟩) Y (roO Xn)<|.lent 4 (.inr ⟨Nat.le_of_ble_eq_true Y, Y⟩) Y (roM D105) .nil) Y Y<|Xo<|rld Y)<|D1 12 Zj Y<|Dq 13 Y (Zr (ov Y) Y)<|Dq 14 Y (Zr (ov Y) Y)<|D1 15 Qm Y<|D1 16 Qm Y<|Dd<|K8 0 2 10 14 18 59 60 61 Y<|QF [some ⟨102, [[.own 5 y7.2.2.bank.memories.length, .own 6 y7.2.2.bank.spots.length, .int .i64 y7.2.2.copies, .bool y7.2.2.frozen, .bool y7.2.2.stopped, .int .i64 y7.2.2.last, .bool y7.2.2.some_]]⟩, none, none, none, none, some ⟨26, List.map O26 y7.2.2.bank.memories⟩, some ⟨105, List.map R105 y7.2.2.bank.spots⟩] Y<|Tr<|Rm Y<|R1 XU Y<|Za<|K8 0 2 10 14 59 60 61 81 Y<|If h Y (fun h=>?_) fun h=>?_
      ·
       refine K2 0 2 Y<|Tr<|Rm Y<|Rq Y (ZC (ov Y) Y Y)<|Rq Y (Zg (ov Y) Y Y ZiZ)<|Rx Y (Zh (ov Y) (ov Y) (Zf tS4) Y Y Y (Nat.le_of_ble_eq_true Y) (Zb Y) Y)<|Za<|K1 2 Y<|QF [some ⟨102, [[.own 5 y7.2.2.bank.memories.length, .own 6 y7.2.2.bank.spots.length, .int .i64 y7.2.2.copies, .bool y7.2.2.frozen, .bool true, .int .i64 y7.2.2.last, .bool y7.2.2.some_]]⟩, none, none, none, none, some ⟨26, List.map O26 y7.2.2.bank.memories⟩, some ⟨105, List.map R105 y7.2.2.bank.spots⟩] Y<|Tr<|Rm Y<|Ra Y<|Ra Y<|Ra Y<|Za<|?_
       replace h := lx h ▸ ho1
       obtain rfl := rt h
       exact Zs<|JI [some 0, some 1, some 2, some 5, some 6] Y (.cons (.tmp Y)<|.cons (.tmp Y)<|.cons (.tmp Y) .nil) (.cons Y (ro1 (by exact tZ_102.symm)<|rlc (.own _ Y)<|rlc (.own _ Y)<|rlc (.dat Y)<|rlc (.dat Y)<|rlc (.dat Y)<|rlc (.dat Y)<|rlc (.dat Y) rln)<|.dead<|.dead<|.cons Y (roO Xn)<|.cons Y (roM D105) .nil) Y Y<|Xo<|rlc (.dat Y)<|rlc (.dat Y)<|rlc (.dat Y) rln
      ·
       exact Zm<|K7 0 2 10 14 59 60 61 Y<|ZA<|R2 ZY Y<|Rm Y<|Za<|⟨_, h, ES [some 0, some 1, some 2, some 5, some 6] (hhp := .cons Y (ro1 (by exact tZ_102.symm)<|rlc (.own _ Y)<|rlc (.own _ Y)<|rlc (.dat Y)<|rlc (.dat Y)<|rlc (.dat Y)<|rlc (.dat Y)<|rlc (.dat Y) rln)<|.dead<|.dead<|.cons Y (roO Xn)<|.cons Y (roM D105) .nil)⟩
     ·
      refine ZN<|?_
      replace h := lx h ▸ ho1
      exact ⟨_, h, ES [some 0, some 1, some 2, some 3, some 4] (hhp := .cons Y (ro1 (by exact tZ_102.symm)<|rlc (.own _ Y)<|rlc (.own _ Y)<|rlc (.dat Y)<|rlc (.dat Y)<|rlc (.dat Y)<|rlc (.dat Y)<|rlc (.dat Y) rln)<|.dead<|.dead<|.cons Y (roO Xn)<|.cons Y (roM D105) .nil)⟩
    ·
     replace h := elr h
     replace h := t8i h
     refine Tr<|Rm Y<|Rm Y<|Rm Y<|Rq Y (ZC (ov Y) Y Y)<|Rq Y (Zg (ov Y) Y Y Zku)<|Rx Y (Zh (ov Y) (ov Y) (Zf tS3) Y Y Y (Nat.le_of_ble_eq_true Y) (Zb Y) Y)<|Rq Y (ZC (ov Y) Y Y)<|Rq Y (Zg (ov Y) Y Y Zkw)<|Rx Y (Zh (ov Y) (ov Y) (Zf tS4) Y Y Y (Nat.le_of_ble_eq_true Y) (Zb Y) Y)<|Za<|K1 2 Y<|QF [some ⟨102, [[.own 3 memories.length, .own 4 spots.length, .int .i64 copies, .bool frozen, .bool stopped, .int .i64 y3.1, .bool true]]⟩, none, none, some ⟨26, List.map O26 memories⟩, some ⟨105, List.map R105 spots⟩] Y<|Tr<|Rm Y<|Ra Y<|Ra Y<|Ra Y<|Za<|?_
     obtain rfl := rt h
     exact Zs<|JI [some 0, some 1, some 2, some 3, some 4] Y (.cons (.tmp Y)<|.cons (.tmp Y)<|.cons (.tmp Y) .nil) (.cons Y (ro1 (by exact tZ_102.symm)<|rlc (.own _ Y)<|rlc (.own _ Y)<|rlc (.dat Y)<|rlc (.dat Y)<|rlc (.dat Y)<|rlc (.dat Y)<|rlc (.dat Y) rln)<|.dead<|.dead<|.cons Y (roO Xn)<|.cons Y (roM D105) .nil) Y Y<|Xo<|rlc (.dat Y)<|rlc (.dat Y)<|rlc (.dat Y) rln
theorem ZgB {l : List api_Memory} {r : (List api_Memory)} (h : Xz l = some r) :
 CSpec Tryz.prog gl0 63 [.sl 26 (List.map R26 l)] (.sl 26 (List.map R26 r)) := by
 unfold Xz at h
 replace h := Qd h
 refine So Tryz.func63 Y fun w0 A=>Tr<|Ra Y<|Za<|K1 0 Y<|Tr<|Ra Y<|Za<|I1 (fun out=>⟨[(3, .own 0 out.length)], [some ⟨26, List.map O26 out⟩]⟩) h (fun h=>?_) fun out h=>?_
 ·
  refine Tr<|Rm Y<|Rl tZ_26 ZcD Y<|Rm Y<|Za<|Zk<|?_
  obtain ⟨r1, hl1, ho1⟩ := QY h
  refine L2 (fun out2 i=>⟨[(3, .own 0 out2.length), (6, .sl 26 (List.map R26 l)), (7, .int .i64 (l.length : Int)), (8, .int .i64 i)], [some ⟨26, List.map O26 out2⟩]⟩) hl1 (ES [none]) fun n1 out2 i h=>?_
  unfold Ja at h
  refine Tr<|R2 Z1 Y<|Za<|Zl<|If h Y (fun h=>?_) fun h=>?_
  ·
   exact Zm<|Zl<|Zk<|K4 3 6 7 8 Y<|Tr<|bE h fun x h_x h=>Rq Y (Z4 (ov Y) (ov Y) ZcD h_x)<|Rq Y (Xb (ov Y) Qu Y Y)<|Rx Y (ZL (row := [_, _, _, _, _]) 1 Y Q8 Y tZ_26)<|Rx Y (Zh (ov Y) (ov Y) (Zu Qu Y) Y Y Y (Nat.le_of_ble_eq_true Y) (Zb Y) Y)<|Za<|K5 3 5 6 7 8 Y<|QF [some ⟨26, List.map O26 out2⟩, some ⟨26, [[.int .i64 x.Slots, .int .i64 x.Limit, .sl 49 (List.map R49 x.Sectors), .sl 3 (List.map R3 x.Wear), .sl 4 (List.map R4 x.Bad)]]⟩] Y<|ZA<|Rm Y<|Rq Y (Qb (ov Y) Y Y Y Qu Y Y)<|bE h fun y h_y h=>Rx Y (Zv [] (ZbR h_y) (.cons (ov Y) (Zcc<|rld Y) .nil) .nil Y (.keep Y Y<|.keep Y Y<|.lent 0 (.inr ⟨Nat.le_of_ble_eq_true Y, Y⟩) Y (roO ZW)<|.lent 1 (.inr ⟨Nat.le_of_ble_eq_true Y, Y⟩) Y (roM D3)<|.lent 2 (.inr ⟨Nat.le_of_ble_eq_true Y, Y⟩) Y (roM D4) .nil) Y Y<|Zcc<|rlc (.dat Y)<|rlc (.dat Y)<|rlc (.own _<|.inr ⟨Nat.le_of_ble_eq_true Y, Y⟩)<|rlc (.own _<|.inr ⟨Nat.le_of_ble_eq_true Y, Y⟩)<|rlc (.own _<|.inr ⟨Nat.le_of_ble_eq_true Y, Y⟩) rln)<|Rx Y (ZE (r := 5) Y ZcD (.cons (cva<|ov Y) Y .nil) Y Y)<|bE h fun l2 h_l2 h=>Rx Y (Zn (f := O26) (ov Y) (Zw (o := ⟨26, [[.int .i64 y.Slots, .int .i64 y.Limit, .own 2 y.Sectors.length, .own 3 y.Wear.length, .own 4 y.Bad.length]]⟩) (ov Y) Y Y tZ_26) ZcD Y Y (Zb Y) Y h_l2)<|Ra Y<|Zd6 [some ⟨26, List.set (List.map O26 l2) out2.length [.int .i64 y.Slots, .int .i64 y.Limit, .own 2 y.Sectors.length, .own 3 y.Wear.length, .own 4 y.Bad.length]⟩, some ⟨26, [[.int .i64 x.Slots, .int .i64 x.Limit, .sl 49 (List.map R49 x.Sectors), .sl 3 (List.map R3 x.Wear), .sl 4 (List.map R4 x.Bad)]]⟩, some ⟨49, List.map O49 y.Sectors⟩, some ⟨3, List.map R3 y.Wear⟩, some ⟨4, List.map R4 y.Bad⟩, some ⟨26, [[.int .i64 y.Slots, .int .i64 y.Limit, .own 2 y.Sectors.length, .own 3 y.Wear.length, .own 4 y.Bad.length]]⟩] Y<|QK (Ent.absorbH (r := 0) (j := 2) (q := 2) Y (Ze h_l2) Y Y (List.length_map ..) Y)<|QK (Ent.absorbH (r := 0) (j := 3) (q := 3) Y (Ze h_l2) Y Y (List.length_map ..) Y)<|QK (Ent.absorbH (r := 0) (j := 4) (q := 4) Y (Ze h_l2) Y Y (List.length_map ..) Y)<|QK (Ent.closeS (r := 0) Y (Ze h_l2) Y)<|Za<|K4 3 6 7 8 Y<|QF [some ⟨26, List.map O26 l2⟩, some ⟨26, [[.int .i64 x.Slots, .int .i64 x.Limit, .sl 49 (List.map R49 x.Sectors), .sl 3 (List.map R3 x.Wear), .sl 4 (List.map R4 x.Bad)]]⟩, none, none, none, some ⟨26, [[.int .i64 y.Slots, .int .i64 y.Limit, .own 2 y.Sectors.length, .own 3 y.Wear.length, .own 4 y.Bad.length]]⟩] Y<|ZA<|R2 ZY Y<|Rm Y<|Za<|⟨_, h, ES [some 0] (hhp := .cons Y (roO Xn) .nil)⟩
  ·
   refine ZN<|?_
   replace h := lx h ▸ ho1
   exact ⟨_, h, ES [some 0] (hhp := .cons Y (roO Xn) .nil)⟩
 ·
  refine Tr<|Rm Y<|Ra Y<|Za<|?_
  obtain rfl := rt h
  exact Zs (ZQ Y (.one<|.tmp Y<|View.ownO Y Y Xn (fun x=>(D26 x).1) ZiQ))
theorem Zck {r_ : ring_Recorder} {r : (List api_Memory)} (h : Qz r_ = some r) :
 GSpec Tryz.prog gl0 16 [.ptr 0 1 0 0] [some ⟨102, [[.own 1 r_.bank.memories.length, .own 2 r_.bank.spots.length, .int .i64 r_.copies, .bool r_.frozen, .bool r_.stopped, .int .i64 r_.last, .bool r_.some_]]⟩, some ⟨26, List.map O26 r_.bank.memories⟩, some ⟨105, List.map R105 r_.bank.spots⟩] (.sl 26 (List.map R26 r)) [some ⟨102, [[.sl 26 (List.map R26 r_.bank.memories), .own 3 r_.bank.spots.length, .int .i64 r_.copies, .bool r_.frozen, .bool r_.stopped, .int .i64 r_.last, .bool r_.some_]]⟩, none, none, some ⟨105, List.map R105 r_.bank.spots⟩] := by
 unfold Qz at h
 replace h := Qd h
 refine Qt (by kernel_rfl) Tryz.func16 Y Y<|?_
 intro w0 A W φ0
 refine ZeM (Ent.sel [some 0, some 1, some 2, some 1, some 2] (sr 0 Y (.ptr (r' := 0) _ _ _ Y) sn) (.cons Y (ro1 (by exact tZ_102.symm)<|rlc (.own (r' := 3) _ Y)<|rlc (.own (r' := 4) _ Y)<|rlc (.dat Y)<|rlc (.dat Y)<|rlc (.dat Y)<|rlc (.dat Y)<|rlc (.dat Y) rln)<|.dead<|.dead<|.cons Y (roO Xn)<|.cons Y (roM D105) .nil) Y Y)<|QF [some ⟨102, [[.own 3 r_.bank.memories.length, .own 4 r_.bank.spots.length, .int .i64 r_.copies, .bool r_.frozen, .bool r_.stopped, .int .i64 r_.last, .bool r_.some_]]⟩, none, none, some ⟨26, List.map O26 r_.bank.memories⟩, some ⟨105, List.map R105 r_.bank.spots⟩] Y<|Tr<|Ra Y<|Za<|Tr<|Rm Y<|Rq Y (ZC (ov Y) Y Y)<|Rq Y (Zg (ov Y) Y Y ZcO)<|Rq Y (Zg (ov Y) Y Y Zci)<|Rq Y (Zo (ov Y) Y Y Y Zh1 Y)<|bE h fun y h_y h=>QK (Ent.meltO (r := 3) Y Xn (fun x=>(D26 x).1) ZiQ)<|QK (Ent.sel [some 0, some 1, some 2, none, some 4] (sr 0 Y (.ptr (r' := 0) _ _ _ Y)<|sd 2 Y Y<|sr 3 Y (.ptr (r' := 0) _ _ _ Y)<|sr 4 Y (.ptr (r' := 0) _ _ _ Y)<|sr 5 Y (.ptr (r' := 0) _ _ _ Y)<|sr 6 Y (.ptr (r' := 0) _ _ _ Y)<|sr 7 Y (ZlF Y Y Y D26) sn) (.cons Y (ro1 (by exact tZ_102.symm)<|rlc (ZlF Y Y Y D26)<|rlc (.own (r' := 4) _ Y)<|rlc (.dat Y)<|rlc (.dat Y)<|rlc (.dat Y)<|rlc (.dat Y)<|rlc (.dat Y) rln)<|.dead<|.dead<|.row 26<|.cons Y (roM D105) .nil) Y Y)<|Rq Y (Zq (ZgB h_y)<|.cons (ov Y) (.b Y) .nil)<|Ra Y<|Za<|?_
 obtain rfl := rt h
 exact Zs<|JI [some 0, some 1, some 2, some 4] Y (.cons (.tmp Y) .nil) (.cons Y (ro1 (by exact tZ_102.symm)<|rlc (.dat Y)<|rlc (.own _ Y)<|rlc (.dat Y)<|rlc (.dat Y)<|rlc (.dat Y)<|rlc (.dat Y)<|rlc (.dat Y) rln)<|.dead<|.dead<|.cons Y (roM D105) .nil) Y Y<|.dat Y
theorem ZgC {p : Vector Int 96} {i : Int} {r : Int} (h : ZaI p i = some r) :
 CSpec Tryz.prog gl0 139 [.rp (List.map C5 p.toList) 0, .int .i64 i] (.int .u16 r) := by
 unfold ZaI at h
 replace h := Qd h
 refine So Tryz.func139 Y fun w0 A=>Tr<|Ra Y<|Za<|K2 0 1 Y<|Tr<|Rm Y<|bE h fun q h_q h=>Rq Y (Zfe (ov Y) (ov Y) h_q)<|R2 Zft Y<|Ra Y<|Za<|Zl<|K3 0 1 5 Y<|Tr<|Rm Y<|bE h fun q2 h_q2 h=>Rq Y (JM (ov Y) (ov Y) h_q2)<|R2 Zbg Y<|Za<|K3 0 5 11 Y<|If h Y (fun h=>?_) fun h=>?_
 ·
  refine Zl<|K2 0 5 Y<|Qj (cw := md0) (by kernel_rfl)<|D1 0 Zj Y<|D1 1 Zj Y<|D1 2 ZJ Y<|bE h fun x h_x h=>Dq 3 Y (QC (ov Y) (ov Y) ZcR h_x)<|Dq 4 Y (Zi (ov Y) tS5<|Qp<|Xd (o := 0) (o' := ((i64 (q * 3)).toNat * 1)) (ZB arL)<|Xj h_x)<|Dq 5 Y (Qv (ov Y) tI5 ZcJ Y)<|bE h fun q3 h_q3 h=>Dq 6 Y (Zdr (ov Y) (ov Y) h_q3)<|D1 7 Zj Y<|D1 8 Zj Y<|D2 9 ZY Y<|D1 10 ZJ Y<|bE h fun x2 h_x2 h=>Dq 11 Y (QC (ov Y) (ov Y) ZcR h_x2)<|Dq 12 Y (Zi (ov Y) tS5<|Qp<|Xd (o := 0) (o' := ((i64 ((i64 (q * 3)) + 1)).toNat * 1)) (ZB arL)<|Xj h_x2)<|Dq 13 Y (Qv (ov Y) tI5 ZcJ Y)<|bE h fun q4 h_q4 h=>Dq 14 Y (Zb8 (ov Y) (ov Y) h_q4)<|D2 15 ZeO Y<|D1 16 Qm Y<|Dd<|?_
  obtain rfl := rt h
  exact Zs (ZQ Y (.one<|rb Y))
 ·
  refine Zm<|Zl<|K2 0 5 Y<|Qj (cw := md0) (by kernel_rfl)<|D1 0 Zj Y<|D1 1 Zj Y<|D2 2 ZY Y<|D1 3 ZJ Y<|bE h fun x3 h_x3 h=>Dq 4 Y (QC (ov Y) (ov Y) ZcR h_x3)<|Dq 5 Y (Zi (ov Y) tS5<|Qp<|Xd (o := 0) (o' := ((i64 ((i64 (q * 3)) + 1)).toNat * 1)) (ZB arL)<|Xj h_x3)<|Dq 6 Y (Qv (ov Y) tI5 ZcJ Y)<|D2 7 Zan Y<|bE h fun q5 h_q5 h=>Dq 8 Y (Zdr (ov Y) (ov Y) h_q5)<|D1 9 Zj Y<|D1 10 Zj Y<|D2 11 ZY Y<|D1 12 ZJ Y<|bE h fun x4 h_x4 h=>Dq 13 Y (QC (ov Y) (ov Y) ZcR h_x4)<|Dq 14 Y (Zi (ov Y) tS5<|Qp<|Xd (o := 0) (o' := ((i64 ((i64 (q * 3)) + 2)).toNat * 1)) (ZB arL)<|Xj h_x4)<|Dq 15 Y (Qv (ov Y) tI5 ZcJ Y)<|D2 16 ZeO Y<|D1 17 Qm Y<|Dd<|?_
  obtain rfl := rt h
  exact Zs (ZQ Y (.one<|rb Y))
theorem Zhi {p : Vector Int 96} {r : (Vector Int 64)} (h : ZcA p = some r) :
 CSpec Tryz.prog gl0 118 [.rp (List.map C5 p.toList) 0] (.agg (List.map C40 r.toList)) := by
 unfold ZcA at h
 replace h := Qd h
 refine So Tryz.func118 Y fun w0 A=>Tr<|Rx Y (ZL (row := (List.map C40 (Vector.replicate 64 0).toList)) 0 Y Zfv Y tZ_42)<|Za<|Tr<|Rx Y (ZL (row := (List.map C40 (Vector.replicate 64 0).toList)) 1 Y Zfv Y tZ_42)<|Za<|I1 (fun f=>⟨[(2, .ptr 0 1 0 0), (3, .ptr 1 1 0 0)], [some ⟨42, [(List.map C40 (Vector.replicate 64 0).toList)]⟩, some ⟨42, [(List.map C40 f.toList)]⟩]⟩) h (fun h=>?_) fun f h=>?_
 ·
  refine Tr<|Rm Y<|Za<|Zk<|?_
  obtain ⟨r1, hl1, ho1⟩ := QY h
  refine L2 (fun f2 i=>⟨[(0, .rp (List.map C5 p.toList) 0), (2, .ptr 0 1 0 0), (3, .ptr 1 1 0 0), (5, .int .i64 i)], [some ⟨42, [(List.map C40 (Vector.replicate 64 0).toList)]⟩, some ⟨42, [(List.map C40 f2.toList)]⟩]⟩) hl1 (ES [some 0, some 1]) fun n1 f2 i h=>?_
  unfold ZbF at h
  refine Tr<|R2 Z1 Y<|Za<|Zl<|If h Y (fun h=>?_) fun h=>?_
  ·
   exact Zm<|Zl<|Zk<|K4 0 2 3 5 Y<|Tr<|Rm Y<|Ra Y<|Za<|K5 0 2 3 4 5 Y<|ZA<|Rm Y<|Rm Y<|Rm Y<|bE h fun y h_y h=>Rq Y (Zq (ZgC h_y)<|.cons (ov Y) (.b Y)<|.cons (ov Y) (.b Y) .nil)<|bE h fun x h_x h=>Rq Y (Ji (ov Y) (ov Y) JL Y Y h_x)<|Rx Y (Zh (ov Y) (ov Y) (Zf ZaG) Y Y Y (arB h_x) (Zb Y)<|arS h_x)<|Za<|K4 0 2 3 5 Y<|ZA<|R2 ZY Y<|Rm Y<|Za<|⟨_, h, ES [some 0, some 1]⟩
  ·
   refine ZN<|?_
   replace h := lx h ▸ ho1
   exact ⟨_, h, ES [some 0, some 1]⟩
 ·
  refine Tr<|Rq Y (Qb (ov Y) Y Y Y XT (Qx<|ZB arL) arL (hns := (nsM fun _ => Y)))<|Rx Y (Zh (ov Y) (ov Y) (Zu XT arL) Y Y Y (Zae (ZB arL) arL) (Zb<|arC fun _ => Y)<|X0<|Eq.trans arL<|Eq.symm arL)<|Za<|?_
  obtain rfl := rt h
  exact Zs (ZQ Y (.one<|.agg Y Y Y Y XT (Qx<|ZB arL) arL (pwB<|arD fun _ => Y) (hns := (nsM fun _ => Y))))
theorem ZeW {b : List Int} {r : (Vector Int 64) × Int} (h : Jb b = some r) :
 CSpec Tryz.prog gl0 79 [.sl 5 (List.map R5 b)] (.tuple [.agg (List.map C40 r.1.toList), .int .i64 r.2]) := by
 unfold Jb at h
 replace h := Qd h
 refine So Tryz.func79 Y fun w0 A=>Tr<|Rx Y (ZL (row := (List.map C40 (Vector.replicate 64 0).toList)) 0 Y Zfv Y tZ_42)<|Ra Y<|Za<|Zl<|K2 0 2 Y<|Tr<|Rm Y<|Rl tZ_5 Qg Y<|R2 Z1 Y<|Za<|K3 0 2 7 Y<|If h Y (fun h=>?_) fun h=>?_
 ·
  refine K1 2 Y<|Tr<|R_q (.agg<|List.map C40 (#v[0, 0, 0, 0, 0, 0, 0, 0, 0, 0, 0, 0, 0, 0, 0, 0, 0, 0, 0, 0, 0, 0, 0, 0, 0, 0, 0, 0, 0, 0, 0, 0, 0, 0, 0, 0, 0, 0, 0, 0, 0, 0, 0, 0, 0, 0, 0, 0, 0, 0, 0, 0, 0, 0, 0, 0, 0, 0, 0, 0, 0, 0, 0, 0] : Vector Int 64).toList) Y (Zdi (ys := [_, _, _, _, _, _, _, _, _, _, _, _, _, _, _, _, _, _, _, _, _, _, _, _, _, _, _, _, _, _, _, _, _, _, _, _, _, _, _, _, _, _, _, _, _, _, _, _, _, _, _, _, _, _, _, _, _, _, _, _, _, _, _, _]) JL Zfv .nil Y)<|Rx Y (Zh (ov Y) (ov Y) (Zu XT arL) Y Y Y (Zae (ZB arL) arL) (Zb<|arC fun _ => Y)<|X0<|Eq.trans arL<|Eq.symm arL)<|Ra Y<|Za<|?_
  obtain rfl := rt h
  exact Zs (ZQ Y (.two (.agg Y Y Y Y XT (Qx<|ZB arL) arL (pwB<|arD fun _ => Y) (hns := (nsM fun _ => Y)))<|rb Y))
 ·
  refine Zm<|K2 0 2 Y<|Tr<|Rm Y<|bE h fun l h_l h=>Rq Y (Zhf (ov Y) Qg on (oi<|ov Y) h_l)<|bE h fun v h_v h=>Rq Y (ZiN (f := C5) (ov Y) ZcR tZ_5 Y h_v)<|Rq Y (Xb (ov Y) ZkS (Qx<|ZB arL) arL)<|Rx Y (ZL (row := (List.map C5 (Vector.replicate 96 0).toList)) 1 Y ZkW Y tZ_157)<|Rx Y (Zh (ov Y) (ov Y) (Zu ZkS arL) Y Y Y (Zae (ZB arL) arL) (Zb<|arC fun _ => Y)<|X0<|Eq.trans arL<|Eq.symm arL)<|Za<|K2 2 4 Y<|Tr<|bE h fun y h_y h=>Rq Y (ZbA (Zhi h_y) (Zin fun _=>.int)<|.cons (ov Y) (View.ptr Y Y Y (pwB<|arD fun _ => Y) (hns := (nsM fun _ => Y))) .nil)<|Rx Y (Zh (ov Y) (ov Y) (Zu XT arL) Y Y Y (Zae (ZB arL) arL) (Zb<|arC fun _ => Y)<|X0<|Eq.trans arL<|Eq.symm arL)<|Ra Y<|Za<|?_
  obtain rfl := rt h
  exact Zs (ZQ Y (.two (.agg Y Y Y Y XT (Qx<|ZB arL) arL (pwB<|arD fun _ => Y) (hns := (nsM fun _ => Y)))<|rb Y))
theorem ZgD {l : List api_Memory} {r : (List api_Kept) × Int} (h : Zax l = some r) :
 CSpec Tryz.prog gl0 26 [.sl 26 (List.map R26 l)] (.tuple [.sl 65 (List.map R65 r.1), .int .i64 r.2]) := by
 unfold Zax at h
 replace h := Qd h
 refine So Tryz.func26 Y fun w0 A=>Tr<|Ra Y<|Ra Y<|Za<|Zl<|K1 0 Y<|Tr<|Rm Y<|bE h fun y h_y h=>Rq Y (Zq (Zdb h_y)<|.cons (ov Y) (.b Y) .nil)<|Ra Y<|Za<|K2 0 4 Y<|Tr<|Rm Y<|R2 XK Y<|Za<|K3 0 4 20 Y<|If h Y (fun h=>?_) fun h=>?_
 ·
  refine K1 4 Y<|Tr<|Rm Y<|Ra Y<|Ra Y<|Za<|?_
  obtain rfl := rt h
  exact Zs (ZQ Y (.two (.tmp Y<|View.nils 65)<|rb Y))
 ·
  refine Zm<|K1 0 Y<|Tr<|Ra Y<|Za<|I1 (fun out=>⟨[(5, .own 0 out.length)], [some ⟨65, List.map R65 out⟩]⟩) h (fun h=>?_) fun out h=>?_
  ·
   refine Tr<|Rm Y<|Rl tZ_26 ZcD Y<|Rm Y<|Za<|Zk<|?_
   obtain ⟨r1, hl1, ho1⟩ := QY h
   refine L2 (fun out2 i=>⟨[(5, .own 0 out2.length), (22, .sl 26 (List.map R26 l)), (23, .int .i64 (l.length : Int)), (24, .int .i64 i)], [some ⟨65, List.map R65 out2⟩]⟩) hl1 (ES [none]) fun n1 out2 i h=>?_
   unfold Zad at h
   refine Tr<|R2 Z1 Y<|Za<|Zl<|If h Y (fun h=>?_) fun h=>?_
   ·
    refine Zm<|I1 (fun out3=>⟨[(5, .own 0 out3.length), (22, .sl 26 (List.map R26 l)), (23, .int .i64 (l.length : Int)), (24, .int .i64 i)], [some ⟨65, List.map R65 out3⟩]⟩) h (fun h=>?_) fun out3 h=>?_
    ·
     refine Zk<|K4 5 22 23 24 Y<|Tr<|Rm Y<|bE h fun x h_x h=>Rq Y (Z4 (ov Y) (ov Y) ZcD h_x)<|Rq Y (Xb (ov Y) Qu Y Y)<|Rx Y (ZL (row := [_, _, _, _, _]) 1 Y Q8 Y tZ_26)<|Ra Y<|Rx Y (Zh (ov Y) (ov Y) (Zu Qu Y) Y Y Y (Nat.le_of_ble_eq_true Y) (Zb Y) Y)<|Za<|K6 5 6 7 22 23 24 Y<|Tr<|Rq Y (Qb (ov Y) Y Y Y Qu Y Y)<|bE h fun y2 h_y2 h=>Rq Y (Zq (ZdM h_y2)<|.cons (ov Y) (.aggB Y) .nil)<|Rl tZ_3 QH Y<|Rm Y<|Za<|Zk<|?_
     obtain ⟨r2, hl2, ho2⟩ := QY h
     refine L2 (fun out4 i2=>⟨[(5, .own 0 out4.length), (6, .int .i64 i), (7, .ptr 1 1 0 0), (22, .sl 26 (List.map R26 l)), (23, .int .i64 (l.length : Int)), (24, .int .i64 i), (30, .sl 3 (List.map R3 y2)), (31, .int .i64 (y2.length : Int)), (32, .int .i64 i2)], [some ⟨65, List.map R65 out4⟩, some ⟨26, [[.int .i64 x.Slots, .int .i64 x.Limit, .sl 49 (List.map R49 x.Sectors), .sl 3 (List.map R3 x.Wear), .sl 4 (List.map R4 x.Bad)]]⟩]⟩) hl2 (ES [some 0, some 1]) fun n2 out4 i2 h=>?_
     unfold J6 at h
     refine Tr<|R2 Z1 Y<|Za<|Zl<|If h Y (fun h=>?_) fun h=>?_
     ·
      refine Zm<|I1 (fun out5=>⟨[(5, .own 0 out5.length), (6, .int .i64 i), (7, .ptr 1 1 0 0), (22, .sl 26 (List.map R26 l)), (23, .int .i64 (l.length : Int)), (24, .int .i64 i), (30, .sl 3 (List.map R3 y2)), (31, .int .i64 (y2.length : Int)), (32, .int .i64 i2)], [some ⟨65, List.map R65 out5⟩, some ⟨26, [[.int .i64 x.Slots, .int .i64 x.Limit, .sl 49 (List.map R49 x.Sectors), .sl 3 (List.map R3 x.Wear), .sl 4 (List.map R4 x.Bad)]]⟩]⟩) h (fun h=>?_) fun out5 h=>?_
      ·
       refine Zk<|K9 5 6 7 22 23 24 30 31 32 Y<|Tr<|bE h fun x2 h_x2 h=>Rq Y (Z4 (ov Y) (ov Y) QH h_x2)<|Rq Y (Zi (ov Y) tS3 Y)<|Ra Y<|Za<|K10 5 6 7 9 22 23 24 30 31 32 Y<|Tr<|Rq Y (Zg (ov Y) Y Y Zp)<|Rq Y (Zo (ov Y) Y Y Y ZD Y)<|Rm Y<|bE h fun x3 h_x3 h=>Rq Y (Z4 (ov Y) (ov Y) Zz h_x3)<|Rq Y (Zi (ov Y) Zfl Y)<|bE h fun y3 h_y3 h=>Rq Y (Zq (Zaz h_y3)<|.cons (ov Y) (.b Y) .nil)<|Rm Y<|Rq Y (Zr (ov Y) Y)<|Rq Y (Zr (ov Y) Y)<|Rq Y (Zr (ov Y) Y)<|Ra Y<|Ra Y<|Ra Y<|Za<|K11 5 6 7 9 10 22 23 24 30 31 32 Y<|Tr<|Rq Y (Zg (ov Y) Y Y Ze3)<|Rq Y (Zo (ov Y) Y Y Y tS3 Y)<|Rm Y<|Za<|Zk<|?_
       obtain ⟨r3, hl3, ho3⟩ := QY h
       refine L2 (fun out6 i3=>⟨[(5, .own 0 out6.length), (6, .int .i64 i), (7, .ptr 1 1 0 0), (9, .int .i64 x2), (10, .int .i64 y3.1), (22, .sl 26 (List.map R26 l)), (23, .int .i64 (l.length : Int)), (24, .int .i64 i), (30, .sl 3 (List.map R3 y2)), (31, .int .i64 (y2.length : Int)), (32, .int .i64 i2), (47, .int .i64 x.Slots), (48, .int .i64 i3)], [some ⟨65, List.map R65 out6⟩, some ⟨26, [[.int .i64 x.Slots, .int .i64 x.Limit, .sl 49 (List.map R49 x.Sectors), .sl 3 (List.map R3 x.Wear), .sl 4 (List.map R4 x.Bad)]]⟩]⟩) hl3 (ES [some 0, some 1]) fun n3 out6 i3 h=>?_
       unfold Zac at h
       refine Tr<|R2 Z1 Y<|Za<|Zl<|If h Y (fun h=>?_) fun h=>?_
       ·
        refine Zm<|Zl<|Zk<|XL (kc 5 Y<|kc 6 Y<|kc 7 Y<|kc 9 Y<|kc 10 Y<|kc 22 Y<|kc 23 Y<|kc 24 Y<|kc 30 Y<|kc 31 Y<|kc 32 Y<|kc 47 Y<|kc 48 Y kn) Y<|Tr<|Rm Y<|Ra Y<|Za<|XL (kc 5 Y<|kc 6 Y<|kc 7 Y<|kc 9 Y<|kc 10 Y<|kc 13 Y<|kc 22 Y<|kc 23 Y<|kc 24 Y<|kc 30 Y<|kc 31 Y<|kc 32 Y<|kc 47 Y<|kc 48 Y kn) Y<|Tr<|Rq Y (Zg (ov Y) Y Y Zp)<|Rq Y (Zo (ov Y) Y Y Y ZD Y)<|Rm Y<|bE h fun x4 h_x4 h=>Rq Y (Z4 (ov Y) (ov Y) Zz h_x4)<|Rq Y (Zi (ov Y) Zfl Y)<|Rm Y<|bE h fun y4 h_y4 h=>Rq Y (Zq (Zei h_y4)<|.cons (ov Y) (.b Y)<|.cons (ov Y) (.b Y) .nil)<|Ra Y<|Za<|XL (kc 5 Y<|kc 6 Y<|kc 7 Y<|kc 9 Y<|kc 10 Y<|kc 13 Y<|kc 14 Y<|kc 22 Y<|kc 23 Y<|kc 24 Y<|kc 30 Y<|kc 31 Y<|kc 32 Y<|kc 47 Y<|kc 48 Y kn) Y<|Tr<|Rm Y<|bE h fun y5 h_y5 h=>Rq Y (Zq (ZdI h_y5)<|.cons (ov Y) (.b Y) .nil)<|R2 Zbg Y<|Za<|XL (kc 5 Y<|kc 6 Y<|kc 7 Y<|kc 9 Y<|kc 10 Y<|kc 13 Y<|kc 14 Y<|kc 22 Y<|kc 23 Y<|kc 24 Y<|kc 30 Y<|kc 31 Y<|kc 32 Y<|kc 47 Y<|kc 48 Y<|kc 60 Y kn) Y<|If h Y (fun h=>?_) fun h=>?_
        ·
         exact XL (kc 5 Y<|kc 6 Y<|kc 7 Y<|kc 9 Y<|kc 10 Y<|kc 13 Y<|kc 14 Y<|kc 22 Y<|kc 23 Y<|kc 24 Y<|kc 30 Y<|kc 31 Y<|kc 32 Y<|kc 47 Y<|kc 48 Y kn) Y<|Tr<|Rm Y<|R1 ZJ Y<|bE h fun l2 h_l2 h=>Rq Y (ZiX (f := C5) (ov Y) Zi1 tZ_5 (ZB arL) Y on on h_l2)<|bE h fun y6 h_y6 h=>Rq Y (Zq (ZeW h_y6)<|.cons (ov Y) (.b Y) .nil)<|Rm Y<|Rq Y (Zr (ov Y) Y)<|Rq Y (Zr (ov Y) Y)<|Rx Y (ZL (row := (List.map C40 (Vector.replicate 64 0).toList)) 2 Y Zfv Y tZ_42)<|Rx Y (Zh (ov Y) (ov Y) (Zu XT arL) Y Y Y (Zae (ZB arL) arL) (Zb<|arC fun _ => Y)<|X0<|Eq.trans arL<|Eq.symm arL)<|Ra Y<|Za<|XL (kc 5 Y<|kc 6 Y<|kc 7 Y<|kc 9 Y<|kc 10 Y<|kc 13 Y<|kc 15 Y<|kc 22 Y<|kc 23 Y<|kc 24 Y<|kc 30 Y<|kc 31 Y<|kc 32 Y<|kc 47 Y<|kc 48 Y kn) Y<|ZA<|Rm Y<|Rm Y<|Rm Y<|Rm Y<|Rm Y<|Rq Y (Qb (ov Y) Y Y Y XT (Qx<|ZB arL) arL (hns := (nsM fun _ => Y)))<|Rq Y (ZjI (zr := (.int .i64 0) :: (.int .i64 0) :: (.int .i64 0) :: (.int .i64 0) :: ((List.map C40 (Vector.replicate 64 0).toList) ++ ([]))) Zlu ZlD Zll (by kernel_rfl) (.cons (cvs (ov Y)<|Zd Y)<|.cons (cvs (ov Y)<|Zd Y)<|.cons (cvs (ov Y)<|Zd Y)<|.cons (cvs (ov Y)<|Zd Y)<|.cons (cva<|ov Y) .nil)<|ZfI Y Y at1 pt2<|ZfI Y Y at3 pt4<|ZfI Y Y at5 pt6<|ZfI Y Y at7 pt8<|ZfI Y arL at9 ZlX Zk8)<|R_q (.sl 65<|List.map R65 ([(api_Kept.mk i x2 y3.1 i3 y6.1)] : List api_Kept)) Y (Q0 Zks (.cons (cva<|ov Y) ZcN (pwD ZeS) .nil) Y Y)<|bE h fun l3 h_l3 h=>Rx Y (Q2 (ov Y) (QX (ov Y) tZ_65) Zks Y Y Y (fun x=>Zb<|E65 x) Y h_l3)<|Ra Y<|Za<|XL (kc 5 Y<|kc 6 Y<|kc 7 Y<|kc 9 Y<|kc 10 Y<|kc 22 Y<|kc 23 Y<|kc 24 Y<|kc 30 Y<|kc 31 Y<|kc 32 Y<|kc 47 Y<|kc 48 Y kn) Y<|ZA<|R2 ZY Y<|Rm Y<|Za<|⟨_, h, ES [some 0, some 1]⟩
        ·
         exact Zm<|XL (kc 5 Y<|kc 6 Y<|kc 7 Y<|kc 9 Y<|kc 10 Y<|kc 22 Y<|kc 23 Y<|kc 24 Y<|kc 30 Y<|kc 31 Y<|kc 32 Y<|kc 47 Y<|kc 48 Y kn) Y<|ZA<|R2 ZY Y<|Rm Y<|Za<|⟨_, h, ES [some 0, some 1]⟩
       ·
        refine ZN<|?_
        replace h := lx h ▸ ho3
        exact ⟨_, h, ES [some 0, some 1]⟩
      ·
       exact ZA<|R2 ZY Y<|Rm Y<|Za<|⟨_, h, ES [some 0, some 1]⟩
     ·
      refine ZN<|?_
      replace h := lx h ▸ ho2
      exact ⟨_, h, ES [some 0]⟩
    ·
     exact ZA<|R2 ZY Y<|Rm Y<|Za<|⟨_, h, ES [some 0]⟩
   ·
    refine ZN<|?_
    replace h := lx h ▸ ho1
    exact ⟨_, h, ES [some 0]⟩
  ·
   refine Tr<|Rm Y<|Ra Y<|Ra Y<|Za<|?_
   obtain rfl := rt h
   exact Zs (ZQ Y (.two (.tmp Y<|View.ownM Y Y D65)<|rb Y))
theorem Zjn {xs r : List Int} (h : Zgj xs = some r) :
    GSpec Tryz.prog gl0 83 [.own 0 xs.length] [some ⟨3, List.map R3 xs⟩] (.tuple []) [some ⟨3, List.map R3 r⟩] :=
  ZjM (g := R3) (fun _ => rfl) (by kernel_rfl) tZ_3 (fun _ _ _ _ _ h1 h2 h3 => Any.slices_Sort_int Tryz.lays189 _ _ _ _ _ h1 h2 h3) (fun p c w => Any.slices_Sort_int_none Tryz.lays189 p c w) h
theorem Zg0 {l : List api_Memory} {r : (List (Vector Int 64)) × Int} (h : ZbM l = some r) :
 CSpec Tryz.prog gl0 29 [.sl 26 (List.map R26 l)] (.tuple [.sl 42 (List.map R42 r.1), .int .i64 r.2]) := by
 unfold ZbM at h
 replace h := Qd h
 refine So Tryz.func29 Y fun w0 A=>Tr<|Ra Y<|Ra Y<|Za<|K1 0 Y<|Tr<|Rm Y<|bE h fun y h_y h=>Rq Y (Zq (ZgD h_y)<|.cons (ov Y) (.b Y) .nil)<|Rm Y<|Rq Y (Zr (ov Y) Y)<|Rq Y (Zr (ov Y) Y)<|Ra Y<|Ra Y<|Za<|Zl<|K2 4 5 Y<|Tr<|Rm Y<|R2 XK Y<|Za<|K3 4 5 23 Y<|If h Y (fun h=>?_) fun h=>?_
 ·
  refine K1 5 Y<|Tr<|Rm Y<|Ra Y<|Ra Y<|Za<|?_
  obtain rfl := rt h
  exact Zs (ZQ Y (.two (.tmp Y<|View.nils 42)<|rb Y))
 ·
  refine Zm<|K1 4 Y<|Tr<|Rx Y (Zjr 0 Y ZhS)<|Ra Y<|Za<|K2 4 6 Y<|Tr<|Ra Y<|Za<|I2 (fun best numbers=>⟨[(6, .mref 0 1), (7, .own 1 numbers.length)], [some ⟨127, [[.mcon (List.map (JX FK3 ZeI) best)]]⟩, some ⟨3, List.map R3 numbers⟩]⟩) h (fun h=>?_) fun best numbers h=>?_
  ·
   refine Tr<|Rm Y<|Rl tZ_65 Zks Y<|Rm Y<|Za<|Zk<|?_
   obtain ⟨r1, hl1, ho1⟩ := QY h
   refine L3 (fun best2 numbers2 i=>⟨[(6, .mref 0 1), (7, .own 1 numbers2.length), (26, .sl 65 (List.map R65 y.1)), (27, .int .i64 (y.1.length : Int)), (28, .int .i64 i)], [some ⟨127, [[.mcon (List.map (JX FK3 ZeI) best2)]]⟩, some ⟨3, List.map R3 numbers2⟩]⟩) hl1 (ES [some 0, none] (hhp := .cons Y (ZfG (fk := FK3) (fv := ZeI) (m := ([] : List (Int × api_Kept))) tZ_127 (fun _=>.dat Y) fun _=>.ren<|Zcc<|rld ZeS)<|.row 3 .nil)) fun n1 best2 numbers2 i h=>?_
   unfold ZaP at h
   refine Tr<|R2 Z1 Y<|Za<|Zl<|If h Y (fun h=>?_) fun h=>?_
   ·
    refine Zm<|Zl<|Zk<|K5 6 7 26 27 28 Y<|Tr<|bE h fun x h_x h=>Rq Y (Z4 (ov Y) (ov Y) Zks h_x)<|Rq Y (Xb (ov Y) Zkt (Qx<|ZB ZcN) ZcN)<|Rx Y (ZL (row := (.int .i64 0) :: (.int .i64 0) :: (.int .i64 0) :: (.int .i64 0) :: ((List.map C40 (Vector.replicate 64 0).toList) ++ ([]))) 2 Y Zll (by kernel_rfl)<|by exact Eq.symm (Eq.trans (b := 68) ZcN tZ_65.symm))<|Rx Y (Zh (ov Y) (ov Y) (Zu Zkt ZcN) Y Y Y (Zae (ZB ZcN) ZcN) (Zb Zlb)<|X0<|Eq.trans ZcN<|Eq.symm ZcN)<|Za<|Zl<|K6 6 7 9 26 27 28 Y<|Tr<|Rq Y (Zg (ov Y) Y Y ZjC)<|Rq Y (Qb (ov Y) Y Y Y XT (Qx at9) arL (hns := (nsM fun _ => Y)))<|bE h fun y2 h_y2 h=>Rq Y (Zq (ZdX h_y2)<|.cons (ov Y) (.aggB<|arD fun _ => Y) .nil)<|Rl tZ_149 Zdf Y<|R2 Zcu Y<|Za<|K7 6 7 9 26 27 28 36 Y<|If h Y (fun h=>?_) fun h=>?_
    ·
     exact ZN<|K5 6 7 26 27 28 Y<|ZA<|R2 ZY Y<|Rm Y<|Za<|⟨_, h, ES [some 0, some 1] (hhp := .cons Y (ZfG (fk := FK3) (fv := ZeI) (m := best2) tZ_127 (fun _=>.dat Y) fun _=>.ren<|Zcc<|rld ZeS)<|.cons Y (roM D3) .nil)⟩
    ·
     refine Zm<|K6 6 7 9 26 27 28 Y<|Tr<|Rq Y (Zg (ov Y) Y Y ZjC)<|Rq Y (Qb (ov Y) Y Y Y XT (Qx at9) arL (hns := (nsM fun _ => Y)))<|bE h fun y3 h_y3 h=>Rq Y (Zq (ZdP h_y3)<|.cons (ov Y) (.aggB<|arD fun _ => Y) .nil)<|Rm Y<|Rq Y (Zr (ov Y) Y)<|Rq Y (Zr (ov Y) Y)<|Ra Y<|Ra Y<|Za<|K7 6 7 9 10 26 27 28 Y<|Tr<|Rm Y<|Rm Y<|bE h fun o h_o h=>Rq Y (Zlw (m := best2) (fk := FK3) (fv := ZeI) (k := y3.1) (z0 := (api_Kept.mk 0 0 0 0 (Vector.replicate 64 0))) (ov Y) (ov Y) ZhS Zk7 Y (fun _=>.b Y) (Zia ZkY Y) (fun _ _=>Y) h_o)<|Rm Y<|Rq Y (Zr (ov Y) Y)<|Rq Y (Zr (ov Y) Y)<|Rx Y (ZL (row := (.int .i64 0) :: (.int .i64 0) :: (.int .i64 0) :: (.int .i64 0) :: ((List.map C40 (Vector.replicate 64 0).toList) ++ ([]))) 3 Y Zll (by kernel_rfl)<|by exact Eq.symm (Eq.trans (b := 68) ZcN tZ_65.symm))<|Rx Y (Zh (ov Y) (ov Y) (Zu Zkt ZcN) Y Y Y (Zae (ZB ZcN) ZcN) (Zb Zlb)<|X0<|Eq.trans ZcN<|Eq.symm ZcN)<|Ra Y<|Za<|I1 (fun numbers3=>⟨[(6, .mref 0 1), (7, .own 1 numbers3.length), (9, .ptr 2 1 0 0), (10, .int .i64 y3.1), (12, .ptr 3 1 0 0), (13, .bool o.isSome), (26, .sl 65 (List.map R65 y.1)), (27, .int .i64 (y.1.length : Int)), (28, .int .i64 i)], [some ⟨127, [[.mcon (List.map (JX FK3 ZeI) best2)]]⟩, some ⟨3, List.map R3 numbers3⟩, some ⟨65, [(.int .i64 x.Memory) :: (.int .i64 x.Sector) :: (.int .i64 x.Sequence) :: (.int .i64 x.Slot) :: ((List.map C40 x.Frame.toList) ++ ([]))]⟩, some ⟨65, [(.int .i64 ((o.getD (api_Kept.mk 0 0 0 0 (Vector.replicate 64 0))).Memory)) :: (.int .i64 ((o.getD (api_Kept.mk 0 0 0 0 (Vector.replicate 64 0))).Sector)) :: (.int .i64 ((o.getD (api_Kept.mk 0 0 0 0 (Vector.replicate 64 0))).Sequence)) :: (.int .i64 ((o.getD (api_Kept.mk 0 0 0 0 (Vector.replicate 64 0))).Slot)) :: ((List.map C40 ((o.getD (api_Kept.mk 0 0 0 0 (Vector.replicate 64 0))).Frame).toList) ++ ([]))]⟩]⟩) h (fun h=>?_) fun numbers3 h=>?_
     ·
      refine K9 6 7 9 10 12 13 26 27 28 Y<|Tr<|Rm Y<|R1 XU Y<|Za<|K10 6 7 9 10 12 13 26 27 28 50 Y<|If h Y (fun h=>?_) fun h=>?_
      ·
       exact K9 6 7 9 10 12 13 26 27 28 Y<|ZA<|Rm Y<|Rm Y<|R_q (.sl 3<|List.map R3 ([y3.1] : List Int)) Y (Q0 QH (.cons (cvs (ov Y)<|Zd Y) Y (.cons (.b Y) .nil) .nil) Y Y)<|bE h fun l2 h_l2 h=>Rx Y (Q2 (ov Y) (QX (ov Y) tZ_3) QH Y Y Y (fun _=>Zb Y) Y h_l2)<|Ra Y<|Za<|⟨_, h, ES [some 0, some 1, some 2, some 3] (hhp := .cons Y (ZfG (fk := FK3) (fv := ZeI) (m := best2) tZ_127 (fun _=>.dat Y) fun _=>.ren<|Zcc<|rld ZeS)<|.cons Y (roM D3)<|.cons Y (ro1 (by exact Eq.trans (b := 68) ZcN tZ_65.symm)<|rld ZeS)<|.cons Y (ro1 (by exact Eq.trans (b := 68) ZcN tZ_65.symm)<|rld ZeS) .nil)⟩
      ·
       exact Zm<|⟨_, h, ES [some 0, some 1, some 2, some 3] (hhp := .cons Y (ZfG (fk := FK3) (fv := ZeI) (m := best2) tZ_127 (fun _=>.dat Y) fun _=>.ren<|Zcc<|rld ZeS)<|.cons Y (roM D3)<|.cons Y (ro1 (by exact Eq.trans (b := 68) ZcN tZ_65.symm)<|rld ZeS)<|.cons Y (ro1 (by exact Eq.trans (b := 68) ZcN tZ_65.symm)<|rld ZeS) .nil)⟩
     ·
      refine Tr<|Rm Y<|R1 XU Y<|Rm Y<|Rq Y (.guarded ((!o.isSome) == false) Y Y Y Y fun h => Zg (ov Y) Y Y Zkd)<|Rq Y (.guarded ((!o.isSome) == false) Y Y Y Y fun h => Zo (ow Y h) Y Y Y tS3<|Qp at5)<|Rq Y (.guarded ((!o.isSome) == false) Y Y Y Y fun h => Zg (ov Y) Y Y Zkd)<|Rq Y (.guarded ((!o.isSome) == false) Y Y Y Y fun h => Zo (ow Y h) Y Y Y tS3<|Qp at5)<|Rq Y (.guarded ((!o.isSome) == false) Y Y Y Y fun h => Zcu (ow Y h)<|ow Y h)<|Rq Y (ZdS (ov Y) fun hp=>ow Y<|gF hp)<|Za<|K8 6 7 9 10 26 27 28 63 Y<|If h Y (fun h=>?_) fun h=>?_
      ·
       exact K7 6 7 9 10 26 27 28 Y<|ZA<|Rm Y<|Rm Y<|Rq Y (Qb (ov Y) Y Y Y Zkt (Qx<|ZB ZcN) ZcN (hns := ZlW))<|Rx Y (Zkc (m := best2) (fk := FK3) (fv := ZeI) (k := y3.1) (v := x) (ov Y) (ov Y) (ov Y) ZhS Zk7 Y fun _=>.b Y)<|Za<|K5 6 7 26 27 28 Y<|ZA<|R2 ZY Y<|Rm Y<|Za<|⟨_, h, ES [some 0, some 1] (hhp := .cons Y (ZfG (fk := FK3) (fv := ZeI) (m := (Zio kqI best2 y3.1 x)) tZ_127 (fun _=>.dat Y) fun _=>.ren<|Zcc<|rld ZeS)<|.cons Y (roM D3) .nil)⟩
      ·
       exact Zm<|K5 6 7 26 27 28 Y<|ZA<|R2 ZY Y<|Rm Y<|Za<|⟨_, h, ES [some 0, some 1] (hhp := .cons Y (ZfG (fk := FK3) (fv := ZeI) (m := best2) tZ_127 (fun _=>.dat Y) fun _=>.ren<|Zcc<|rld ZeS)<|.cons Y (roM D3) .nil)⟩
   ·
    refine ZN<|?_
    replace h := lx h ▸ ho1
    exact ⟨_, h, ES [some 0, some 1] (hhp := .cons Y (ZfG (fk := FK3) (fv := ZeI) (m := best2) tZ_127 (fun _=>.dat Y) fun _=>.ren<|Zcc<|rld ZeS)<|.cons Y (roM D3) .nil)⟩
  ·
   refine Tr<|Rm Y<|bE h fun y4 h_y4 h=>Rx Y (Zv [1] (Zjn h_y4) (.cons (ov Y) (.own _ Y) .nil) (.cons Y (roM D3) .nil) Y (.keep Y Y<|.lent 0 (.inl Y) Y (roM D3) .nil) Y Y<|Xo<|rld Y)<|Za<|K2 6 7 Y<|Tr<|Ra Y<|Za<|I1 (fun out=>⟨[(14, .own 0 out.length)], [some ⟨42, List.map R42 out⟩]⟩) h (fun h=>?_) fun out h=>?_
   ·
    refine Tr<|Rm Y<|Rq Y (Zdt (ov Y) Y (Zg6 h_y4) QH)<|Rm Y<|Za<|Zk<|?_
    obtain ⟨r2, hl2, ho2⟩ := QY h
    refine L2 (fun out2 i2=>⟨[(6, .mref 0 1), (14, .own 1 out2.length), (70, .own 2 y4.length), (71, .int .i64 (y4.length : Int)), (72, .int .i64 i2)], [some ⟨127, [[.mcon (List.map (JX FK3 ZeI) best)]]⟩, some ⟨42, List.map R42 out2⟩, some ⟨3, List.map R3 y4⟩]⟩) hl2 (Ent.sel [some 0, none, some 1] (sr 6 Y (.mref _ Y)<|sr 14 Y (.row Y)<|sr 70 Y (Zfd (Eq.symm<|Zg6 h_y4) Y)<|sd 71 Y Y<|sd 72 Y Y sn) (.cons Y (ZfG (fk := FK3) (fv := ZeI) (m := best) tZ_127 (fun _=>.dat Y) fun _=>.ren<|Zcc<|rld ZeS)<|.row 42<|.cons Y (roM D3) .nil) Y Y) fun n2 out2 i2 h=>?_
    unfold Za3 at h
    refine Tr<|R2 Z1 Y<|Za<|Zl<|If h Y (fun h=>?_) fun h=>?_
    ·
     exact Zm<|Zl<|Zk<|K5 6 14 70 71 72 Y<|Tr<|bE h fun x2 h_x2 h=>Rq Y (XB (ov Y) (ov Y) QH Y Y h_x2)<|Rq Y (XQ (ov Y) Y Y h_x2 tS3 Y)<|Ra Y<|Za<|K6 6 14 16 70 71 72 Y<|ZA<|Rm Y<|Rm Y<|Rm Y<|bE h fun o2 h_o2 h=>Rq Y (Zlx (m := best) (fk := FK3) (fv := ZeI) (k := x2) (z0 := (api_Kept.mk 0 0 0 0 (Vector.replicate 64 0))) (ov Y) (ov Y) ZhS Zk7 Y (fun _=>.b Y) (Zia ZkY Y) (fun _ _=>Y) h_o2)<|Rq Y (ZjV (ov Y) ZkK at9)<|R_q (.sl 42<|List.map R42 ([o2.Frame] : List (Vector Int 64))) Y (Q0 ZkF (.cons (cva<|ov Y) arL (pwD<|arD fun _ => Y) .nil) Y Y)<|bE h fun l3 h_l3 h=>Rx Y (Q2 (ov Y) (QX (ov Y) tZ_42) ZkF Y Y Y (fun x=>Zb<|E42 x) Y h_l3)<|Ra Y<|Za<|K5 6 14 70 71 72 Y<|ZA<|R2 ZY Y<|Rm Y<|Za<|⟨_, h, ES [some 0, some 1, some 2] (hhp := .cons Y (ZfG (fk := FK3) (fv := ZeI) (m := best) tZ_127 (fun _=>.dat Y) fun _=>.ren<|Zcc<|rld ZeS)<|.cons Y (roM D42)<|.cons Y (roM D3) .nil)⟩
    ·
     refine ZN<|?_
     replace h := lx h ▸ ho2
     exact ⟨_, h, ES [some 1]⟩
   ·
    refine Tr<|Rm Y<|Ra Y<|Ra Y<|Za<|?_
    obtain rfl := rt h
    exact Zs (ZQ Y (.two (.tmp Y<|View.ownM Y Y D42)<|rb Y))
theorem ZhZ  {r : Bool} (h : Zcl  = some r) :
 CSpec Tryz.prog gl0 13 [] (.bool r) := by
 unfold Zcl at h
 replace h := Qd h
 refine So Tryz.func13 Y fun w0 A=>Tr<|Ra Y<|Za<|K0<|Tr<|bE h fun l h_l h=>Rx Y (Z2 [none] (r := 0) (f := R3) (z0 := 0) Y (ov Y) (ov Y) QH Y tZ3 Y Y h_l)<|bE h fun y h_y h=>Rq Y (ZbA (Zij h_y) (.tuple<|by simp only [List.mem_cons, List.not_mem_nil, or_false, forall_eq_or_imp, forall_eq]; exact ⟨(Zin (fun _ => .int)), .int⟩)<|.cons (ov Y) (Dat.view<|.b Y)<|.cons (ov Y) (View.ownM Y Y D3) .nil)<|Rm Y<|Rq Y (Zr (ov Y) Y)<|Rq Y (Zr (ov Y) Y)<|Rx Y (ZL (row := (List.map C40 (Vector.replicate 64 0).toList)) 1 Y Zfv Y tZ_42)<|Rx Y (Zh (ov Y) (ov Y) (Zu XT arL) Y Y Y (Zae (ZB arL) arL) (Zb<|arC fun _ => Y)<|X0<|Eq.trans arL<|Eq.symm arL)<|Ra Y<|Za<|K1 1 Y<|Tr<|bE h fun y2 h_y2 h=>Rq Y (Zq (ZfA h_y2)<|.cons (ov Y) (.b Y)<|.cons (ov Y) (.b Y)<|.cons (ov Y) (.b Y) .nil)<|Rm Y<|Rq Y (Zr (ov Y) Y)<|Rq Y (Zr (ov Y) Y)<|Rx Y (ZL (row := [_, _, _, _, _]) 2 Y Q8 Y tZ_26)<|Rx Y (Zh (ov Y) (ov Y) (Zu Qu Y) Y Y Y (Nat.le_of_ble_eq_true Y) (Zb Y) Y)<|Ra Y<|Za<|Zl<|K3 1 3 4 Y<|Tr<|Rm Y<|R2 XK Y<|Za<|K3 1 3 20 Y<|If h Y (fun h=>?_) fun h=>?_
 ·
  refine K0<|Tr<|Ra Y<|Za<|?_
  obtain rfl := rt h
  exact Zs (ZQ Y (.one<|rb Y))
 ·
  refine Zm<|K2 1 3 Y<|Tr<|Rq Y (Qb (ov Y) Y Y Y Qu Y Y)<|R_q (.sl 26<|List.map R26 ([y2.1] : List api_Memory)) Y (Q0 ZcD (.cons (cva<|ov Y) Y (pwD Y) .nil) Y Y)<|bE h fun y3 h_y3 h=>?_
  rcases y3 with y3 | y3
  ·
   replace h := ell h
   refine Rx Y (Zv [] (Zev h_y3) (.cons (ov Y) (.dat Y)<|.cons (ov Y) (.dat Y) .nil) .nil Y (.keep Y Y<|.keep Y Y<|.keep Y Y .nil) Y Y<|Xo<|rlc (.dat Y)<|rlc (.dat Y) rln)<|Rm Y<|Rq Y (Zr (ov Y) Y)<|Rq Y (Zr (ov Y) Y)<|Ra Y<|Ra Y<|Za<|Zl<|K3 1 4 5 Y<|Tr<|Rm Y<|R2 XK Y<|Za<|K3 1 5 28 Y<|If h Y (fun h=>?_) fun h=>?_
   ·
    refine K0<|Tr<|Ra Y<|Za<|?_
    obtain rfl := rt h
    exact Zs (ZQ Y (.one<|rb Y))
   ·
    exact Zm<|(ZiF h).elim
  ·
   replace h := elr h
   refine Rx Y (Zv [] (ZeD h_y3) (.cons (ov Y) (.dat Y)<|.cons (ov Y) (.dat Y) .nil) .nil Y (.keep Y Y<|.keep Y Y<|.keep Y Y<|.lent 0 (.inr ⟨Nat.le_of_ble_eq_true Y, Y⟩) Y (ro1 (by exact tZ_102.symm)<|rlc (.own _<|.inr ⟨Nat.le_of_ble_eq_true Y, Y⟩)<|rlc (.own _<|.inr ⟨Nat.le_of_ble_eq_true Y, Y⟩)<|rlc (.dat Y)<|rlc (.dat Y)<|rlc (.dat Y)<|rlc (.dat Y)<|rlc (.dat Y) rln)<|.lent 1 (.inr ⟨Nat.le_of_ble_eq_true Y, Y⟩) Y (roO Xn)<|.lent 2 (.inr ⟨Nat.le_of_ble_eq_true Y, Y⟩) Y (roM D105) .nil) Y Y<|Xo<|rlc (.ptr _ _ _<|.inr ⟨Nat.le_of_ble_eq_true Y, Y⟩)<|rlc (.dat Y) rln)<|Rm Y<|Rq Y (Zr (ov Y) Y)<|Rq Y (Zr (ov Y) Y)<|Ra Y<|Ra Y<|Za<|Zl<|K3 1 4 5 Y<|QF [some ⟨3, List.map R3 l⟩, some ⟨42, [(List.map C40 y.1.toList)]⟩, some ⟨26, [[.int .i64 y2.1.Slots, .int .i64 y2.1.Limit, .sl 49 (List.map R49 y2.1.Sectors), .sl 3 (List.map R3 y2.1.Wear), .sl 4 (List.map R4 y2.1.Bad)]]⟩, some ⟨102, [[.own 4 y3.1.bank.memories.length, .own 5 y3.1.bank.spots.length, .int .i64 y3.1.copies, .bool y3.1.frozen, .bool y3.1.stopped, .int .i64 y3.1.last, .bool y3.1.some_]]⟩, some ⟨26, List.map O26 y3.1.bank.memories⟩, some ⟨105, List.map R105 y3.1.bank.spots⟩] Y<|Tr<|Rm Y<|R2 XK Y<|Za<|K3 1 5 28 Y<|If h Y (fun h=>?_) fun h=>?_
   ·
    refine K0<|Tr<|Ra Y<|Za<|?_
    obtain rfl := rt h
    exact Zs (ZQ Y (.one<|rb Y))
   ·
    refine Zm<|K2 1 5 Y<|Tr<|Rm Y<|Rq Y (Qb (ov Y) Y Y Y XT (Qx<|ZB arL) arL (hns := (nsM fun _ => Y)))<|bE h fun y4 h_y4 h=>Rx Y (Zv [3, 4, 5] (ZcI h_y4) (.cons (ov Y) (.ptr _ _ _ Y)<|.cons (ov Y) (Zcc<|rld<|arD fun _ => Y)<|.cons (ov Y) (.dat Y) .nil) (.cons Y (ro1 (by exact tZ_102.symm)<|rlc (.own _ Y)<|rlc (.own _ Y)<|rlc (.dat Y)<|rlc (.dat Y)<|rlc (.dat Y)<|rlc (.dat Y)<|rlc (.dat Y) rln)<|.cons Y (roO Xn)<|.cons Y (roM D105) .nil) Y (.keep Y Y<|.keep Y Y<|.keep Y Y<|.lent 0 (.inl Y) Y (ro1 (by exact tZ_102.symm)<|rlc (.own _<|.inr ⟨Nat.le_of_ble_eq_true Y, Y⟩)<|rlc (.own _<|.inr ⟨Nat.le_of_ble_eq_true Y, Y⟩)<|rlc (.dat Y)<|rlc (.dat Y)<|rlc (.dat Y)<|rlc (.dat Y)<|rlc (.dat Y) rln)<|.none<|.none<|.lent 3 (.inr ⟨Nat.le_of_ble_eq_true Y, Y⟩) Y (roO Xn)<|.lent 4 (.inr ⟨Nat.le_of_ble_eq_true Y, Y⟩) Y (roM D105) .nil) Y Y<|Xo<|rld Y)<|Rm Y<|Rq Y (Zr (ov Y) Y)<|Rq Y (Zr (ov Y) Y)<|Rq Y (Zr (ov Y) Y)<|Ra Y<|Ra Y<|Ra Y<|Za<|K5 1 4 5 6 7 Y<|QF [some ⟨3, List.map R3 l⟩, some ⟨42, [(List.map C40 y.1.toList)]⟩, some ⟨26, [[.int .i64 y2.1.Slots, .int .i64 y2.1.Limit, .sl 49 (List.map R49 y2.1.Sectors), .sl 3 (List.map R3 y2.1.Wear), .sl 4 (List.map R4 y2.1.Bad)]]⟩, some ⟨102, [[.own 6 y4.2.2.2.bank.memories.length, .own 7 y4.2.2.2.bank.spots.length, .int .i64 y4.2.2.2.copies, .bool y4.2.2.2.frozen, .bool y4.2.2.2.stopped, .int .i64 y4.2.2.2.last, .bool y4.2.2.2.some_]]⟩, none, none, some ⟨26, List.map O26 y4.2.2.2.bank.memories⟩, some ⟨105, List.map R105 y4.2.2.2.bank.spots⟩] Y<|Tr<|Rm Y<|bE h fun y5 h_y5 h=>Rx Y (Zv [3, 6, 7] (Zck h_y5) (.cons (ov Y) (.ptr _ _ _ Y) .nil) (.cons Y (ro1 (by exact tZ_102.symm)<|rlc (.own _ Y)<|rlc (.own _ Y)<|rlc (.dat Y)<|rlc (.dat Y)<|rlc (.dat Y)<|rlc (.dat Y)<|rlc (.dat Y) rln)<|.cons Y (roO Xn)<|.cons Y (roM D105) .nil) Y (.keep Y Y<|.keep Y Y<|.keep Y Y<|.lent 0 (.inl Y) Y (ro1 (by exact tZ_102.symm)<|rlc (.dat Y)<|rlc (.own _<|.inr ⟨Nat.le_of_ble_eq_true Y, Y⟩)<|rlc (.dat Y)<|rlc (.dat Y)<|rlc (.dat Y)<|rlc (.dat Y)<|rlc (.dat Y) rln)<|.none<|.none<|.none<|.none<|.lent 3 (.inr ⟨Nat.le_of_ble_eq_true Y, Y⟩) Y (roM D105) .nil) Y Y<|.dat Y)<|bE h fun y6 h_y6 h=>Rq Y (Zq (Zg0 h_y6)<|.cons (ov Y) (.b Y) .nil)<|Rm Y<|Rq Y (Zr (ov Y) Y)<|Rq Y (Zr (ov Y) Y)<|Ra Y<|Ra Y<|Za<|Zl<|K6 1 4 6 7 8 9 Y<|Qj (cw := md0) (by kernel_rfl)<|D1 0 Zj Y<|D2 1 Zbg Y<|D1 2 Zj Y<|Dq 3 Y (.guarded ((decide (y4.1 = 1)) == true) Y Y Y Y fun h => Zj<|ov Y)<|Dq 4 Y (ZaX (ov Y) fun hp=>ow Y<|gT hp)<|D1 5 Zj Y<|Dq 6 Y (.guarded (((decide (y4.1 = 1)) && y4.2.1) == true) Y Y Y Y fun h => Zj<|ov Y)<|Dq 7 Y (.guarded (((decide (y4.1 = 1)) && y4.2.1) == true) Y Y Y Y fun h => Zbg (ow Y h)<|ov Y)<|Dq 8 Y (ZaX (ov Y) fun hp=>ow Y<|gT hp)<|D1 9 Zj Y<|Dq 10 Y (.guarded ((((decide (y4.1 = 1)) && y4.2.1) && (decide (y4.2.2.1 = 0))) == true) Y Y Y Y fun h => Zj<|ov Y)<|Dq 11 Y (.guarded ((((decide (y4.1 = 1)) && y4.2.1) && (decide (y4.2.2.1 = 0))) == true) Y Y Y Y fun h => Zbg (ow Y h)<|ov Y)<|Dq 12 Y (ZaX (ov Y) fun hp=>ow Y<|gT hp)<|D1 13 Zj Y<|Dq 14 Y (.guarded (((((decide (y4.1 = 1)) && y4.2.1) && (decide (y4.2.2.1 = 0))) && (decide (y6.2 = 0))) == true) Y Y Y Y fun h => Zj<|ov Y)<|Dq 15 Y (.guarded (((((decide (y4.1 = 1)) && y4.2.1) && (decide (y4.2.2.1 = 0))) && (decide (y6.2 = 0))) == true) Y Y Y Y fun h => Ziz (QX (ow Y h) tZ_42) ZkF<|Zfx _ _)<|Dq 16 Y (.guarded (((((decide (y4.1 = 1)) && y4.2.1) && (decide (y4.2.2.1 = 0))) && (decide (y6.2 = 0))) == true) Y Y Y Y fun h => Zbg (ow Y h)<|ov Y)<|Dq 17 Y (ZaX (ov Y) fun hp=>ow Y<|gT hp)<|D1 18 Zj Y<|Dq 19 Y (.guarded ((((((decide (y4.1 = 1)) && y4.2.1) && (decide (y4.2.2.1 = 0))) && (decide (y6.2 = 0))) && (decide ((y6.1.length : Int) = 1))) == true) Y Y Y Y fun h => Zj<|ov Y)<|bE h fun x h_x h=>Dq 20 Y (.guarded ((((((decide (y4.1 = 1)) && y4.2.1) && (decide (y4.2.2.1 = 0))) && (decide (y6.2 = 0))) && (decide ((y6.1.length : Int) = 1))) == true) Y Y Y Y fun h => Z4 (ow Y h) (ov Y) ZkF<|gdT h_x h)<|Dq 21 Y (.guarded ((((((decide (y4.1 = 1)) && y4.2.1) && (decide (y4.2.2.1 = 0))) && (decide (y6.2 = 0))) && (decide ((y6.1.length : Int) = 1))) == true) Y Y Y Y fun h => Xb (ow Y h) XT (Qx<|ZB arL) arL)<|Dq 22 Y (.guarded ((((((decide (y4.1 = 1)) && y4.2.1) && (decide (y4.2.2.1 = 0))) && (decide (y6.2 = 0))) && (decide ((y6.1.length : Int) = 1))) == true) Y Y Y Y fun h => Qb (ov Y) Y Y Y XT (Qx<|ZB arL) arL (hns := (nsM fun _ => Y)))<|Dq 23 Y (.guarded ((((((decide (y4.1 = 1)) && y4.2.1) && (decide (y4.2.2.1 = 0))) && (decide (y6.2 = 0))) && (decide ((y6.1.length : Int) = 1))) == true) Y Y Y Y fun h => Zlm Zls (ow Y h) (ow Y h) (.aggB<|arD fun _ => Y) (.aggB<|arD fun _ => Y) (fkV fun _ => Y) (fkV fun _ => Y)<|eqV fun _ _ => Y)<|Dq 24 Y (ZaX (ov Y) fun hp=>ow Y<|gT hp)<|D1 25 Qm Y<|Dd<|?_
    obtain rfl := rt h
    exact Zs (ZQ Y (.one<|rb Y))
theorem Zcs {sectors : Int} {slots : Int} {limit : Int} {r : Bool} (h : Q4 sectors slots limit = some r) :
 CSpec Tryz.prog gl0 3 [.int .i64 sectors, .int .i64 slots, .int .i64 limit] (.bool r) := by
 unfold Q4 at h
 replace h := Qd h
 refine So Tryz.func3 Y fun w0 A=>Tr<|Ra Y<|Za<|K3 0 1 2 Y<|Tr<|Rm Y<|Rm Y<|Rm Y<|bE h fun y h_y h=>Rx Y (Zv [] (Zew h_y) (.cons (ov Y) (.dat Y)<|.cons (ov Y) (.dat Y)<|.cons (ov Y) (.dat Y) .nil) .nil Y (.lent 0 (.inr ⟨Nat.le_of_ble_eq_true Y, Y⟩) Y (roO ZW)<|.lent 1 (.inr ⟨Nat.le_of_ble_eq_true Y, Y⟩) Y (roM D3)<|.lent 2 (.inr ⟨Nat.le_of_ble_eq_true Y, Y⟩) Y (roM D4) .nil) Y Y<|Xo<|rlc (Zcc<|rlc (.dat Y)<|rlc (.dat Y)<|rlc (.own _<|.inr ⟨Nat.le_of_ble_eq_true Y, Y⟩)<|rlc (.own _<|.inr ⟨Nat.le_of_ble_eq_true Y, Y⟩)<|rlc (.own _<|.inr ⟨Nat.le_of_ble_eq_true Y, Y⟩) rln)<|rlc (.dat Y) rln)<|Rm Y<|Rq Y (Zr (ov Y) Y)<|Rq Y (Zr (ov Y) Y)<|Rx Y (ZL (row := [_, _, _, _, _]) 3 Y Q8 Y tZ_26)<|Rx Y (Zh (ov Y) (ov Y) (Zu Qu Y) Y Y Y (Nat.le_of_ble_eq_true Y) (Zb Y) Y)<|Ra Y<|Za<|K5 0 1 2 7 8 Y<|QF [some ⟨49, List.map O49 y.1.Sectors⟩, some ⟨3, List.map R3 y.1.Wear⟩, some ⟨4, List.map R4 y.1.Bad⟩, some ⟨26, [[.int .i64 y.1.Slots, .int .i64 y.1.Limit, .own 0 y.1.Sectors.length, .own 1 y.1.Wear.length, .own 2 y.1.Bad.length]]⟩] Y<|Tr<|Rm Y<|Rm Y<|Rm Y<|bE h fun y2 h_y2 h=>Rx Y (Zv [] (ZeA h_y2) (.cons (ov Y) (.dat Y)<|.cons (ov Y) (.dat Y)<|.cons (ov Y) (.dat Y) .nil) .nil Y (.keep Y Y<|.keep Y Y<|.keep Y Y<|.keep Y Y<|.lent 0 (.inr ⟨Nat.le_of_ble_eq_true Y, Y⟩) Y (roO ZW)<|.lent 1 (.inr ⟨Nat.le_of_ble_eq_true Y, Y⟩) Y (roM D3)<|.lent 2 (.inr ⟨Nat.le_of_ble_eq_true Y, Y⟩) Y (roM D4) .nil) Y Y<|Xo<|rlc (Zcc<|rlc (.dat Y)<|rlc (.dat Y)<|rlc (.own _<|.inr ⟨Nat.le_of_ble_eq_true Y, Y⟩)<|rlc (.own _<|.inr ⟨Nat.le_of_ble_eq_true Y, Y⟩)<|rlc (.own _<|.inr ⟨Nat.le_of_ble_eq_true Y, Y⟩) rln)<|rlc (.dat Y) rln)<|Rm Y<|Rq Y (Zr (ov Y) Y)<|Rq Y (Zr (ov Y) Y)<|Rx Y (ZL (row := [_, _, _, _, _]) 7 Y Q8 Y tZ_26)<|Rx Y (Zh (ov Y) (ov Y) (Zu Qu Y) Y Y Y (Nat.le_of_ble_eq_true Y) (Zb Y) Y)<|Ra Y<|Za<|K4 7 8 9 10 Y<|QF [some ⟨49, List.map O49 y.1.Sectors⟩, some ⟨3, List.map R3 y.1.Wear⟩, some ⟨4, List.map R4 y.1.Bad⟩, some ⟨26, [[.int .i64 y.1.Slots, .int .i64 y.1.Limit, .own 0 y.1.Sectors.length, .own 1 y.1.Wear.length, .own 2 y.1.Bad.length]]⟩, some ⟨49, List.map O49 y2.1.Sectors⟩, some ⟨3, List.map R3 y2.1.Wear⟩, some ⟨4, List.map R4 y2.1.Bad⟩, some ⟨26, [[.int .i64 y2.1.Slots, .int .i64 y2.1.Limit, .own 4 y2.1.Sectors.length, .own 5 y2.1.Wear.length, .own 6 y2.1.Bad.length]]⟩] Y<|Tr<|Rm Y<|Rm Y<|R2 Zbg Y<|Rm Y<|Rq Y (.guarded ((decide (y.2 = y2.2)) == true) Y Y Y Y fun h => Qb (ov Y) Y Y Y Qu Y Y)<|Rq Y (.guarded ((decide (y.2 = y2.2)) == true) Y Y Y Y fun h => Qb (ov Y) Y Y Y Qu Y Y)<|bE h fun y3 h_y3 h=>Rq Y (.guarded ((decide (y.2 = y2.2)) == true) Y Y Y Y fun h => ZbA (Ze2<|gdT h_y3 h) .bool<|.cons (ow Y h) (View.aggL<|.cons (Dat.view<|.b Y)<|.cons (Dat.view<|.b Y)<|.cons (View.ownO Y Y ZW (fun x=>(D49 x).1) Zj0)<|.cons (View.ownM Y Y D3)<|.cons (View.ownM Y Y D4) .nil)<|.cons (ow Y h) (View.aggL<|.cons (Dat.view<|.b Y)<|.cons (Dat.view<|.b Y)<|.cons (View.ownO Y Y ZW (fun x=>(D49 x).1) Zj0)<|.cons (View.ownM Y Y D3)<|.cons (View.ownM Y Y D4) .nil) .nil)<|Rq Y (ZaX (ov Y) fun hp=>ow Y<|gT hp)<|Rm Y<|bE h fun y4 h_y4 h=>Rq Y (.guarded (((decide (y.2 = y2.2)) && y3) == true) Y Y Y Y fun h => Zq (ZhZ<|gdT h_y4 h) .nil)<|Rq Y (ZaX (ov Y) fun hp=>ow Y<|gT hp)<|Ra Y<|Za<|?_
 obtain rfl := rt h
 exact Zs (ZQ Y (.one<|rb Y))
end Go.Proofs.YtnlmjeleocelgaaGreatDoor
