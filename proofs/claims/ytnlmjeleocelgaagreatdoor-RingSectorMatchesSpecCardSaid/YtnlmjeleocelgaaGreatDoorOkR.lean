/- A text of the proof: a verified executor of the program form, or the contracts of the functions that the law reaches. -/
import Derived.Test.YtnlmjeleocelgaaGreatDoorOkRc
set_option linter.all false
namespace Go.Proofs.YtnlmjeleocelgaaGreatDoor
open Go Go.Vx
set_option maxRecDepth 10000
set_option maxHeartbeats 2000000
set_option linter.unusedVariables false
theorem ZcW {r_ : ring_Recorder} {f : Vector Int 64} {power : Int} {r : Int × Bool × Int × ring_Recorder} (h : QU r_ f power = some r) :
 GSpec Tryz.prog gl0 17 [.ptr 0 1 0 0, .agg (List.map C40 f.toList), .int .i64 power] [some ⟨102, [[.own 1 r_.bank.memories.length, .own 2 r_.bank.spots.length, .int .i64 r_.copies, .bool r_.frozen, .bool r_.stopped, .int .i64 r_.last, .bool r_.some_]]⟩, some ⟨26, List.map O26 r_.bank.memories⟩, some ⟨105, List.map R105 r_.bank.spots⟩] (.tuple [.int .i64 r.1, .bool r.2.1, .int .i64 r.2.2.1]) [some ⟨102, [[.own 3 r.2.2.2.bank.memories.length, .own 4 r.2.2.2.bank.spots.length, .int .i64 r.2.2.2.copies, .bool r.2.2.2.frozen, .bool r.2.2.2.stopped, .int .i64 r.2.2.2.last, .bool r.2.2.2.some_]]⟩, none, none, some ⟨26, List.map O26 r.2.2.2.bank.memories⟩, some ⟨105, List.map R105 r.2.2.2.bank.spots⟩] := by
 unfold QU at h
 replace h := Z0 h
 refine QF (by kernel_rfl) Tryz.func17 Y Y<|?_
 intro w0 A W φ0
 refine Ze6 (Ent.sel [some 0, some 1, some 2, some 1, some 2] (sr 0 Y (.ptr (r' := 0) _ _ _ Y)<|sr 1 Y (Zed<|rld<|arD fun _ => Y)<|sd 2 Y Y sn) (.cons Y (ro1 (by exact tZ_102.symm)<|rlc (.own (r' := 3) _ Y)<|rlc (.own (r' := 4) _ Y)<|rlc (.dat Y)<|rlc (.dat Y)<|rlc (.dat Y)<|rlc (.dat Y)<|rlc (.dat Y) rln)<|.dead<|.dead<|.cons Y (roO Xo)<|.cons Y (roM D105) .nil) Y Y)<|QQ [some ⟨102, [[.own 3 r_.bank.memories.length, .own 4 r_.bank.spots.length, .int .i64 r_.copies, .bool r_.frozen, .bool r_.stopped, .int .i64 r_.last, .bool r_.some_]]⟩, none, none, some ⟨26, List.map O26 r_.bank.memories⟩, some ⟨105, List.map R105 r_.bank.spots⟩] Y<|Tr<|Rq Y (Zdb (cva<|ov Y) arL tZ_42<|arD fun _ => Y)<|Ra Y<|Ra Y<|Ra Y<|Za<|Zg<|K3 0 2 4 Y<|Tr<|Rm Y<|Rm Y<|bE h fun y h_y h=>Rq Y (Zcn (Zd7 h_y) .int<|.cons (ov Y) (View.ptrS (j := 0) (k := 7) Y Y Y (Nat.le_of_ble_eq_true Y)<|.cons (View.ownO Y Y Xo (fun x=>(D26 x).1) Zjv)<|.cons (View.ownM Y Y D105)<|.cons (Dat.view<|.b Y)<|.cons (Dat.view<|.b Y)<|.cons (Dat.view<|.b Y)<|.cons (Dat.view<|.b Y)<|.cons (Dat.view<|.b Y) .nil)<|.cons (ov Y) (Dat.view<|.b Y) .nil)<|Ra Y<|Za<|K4 0 2 4 9 Y<|Tr<|Rm Y<|R2 Xp Y<|Za<|K5 0 2 4 9 23 Y<|If h Y (fun h=>?_) fun h=>?_
 ·
  refine K1 9 Y<|Tr<|Rm Y<|Ra Y<|Ra Y<|Ra Y<|Za<|?_
  obtain rfl := rt h
  exact Zn<|Zbd [some 0, some 1, some 2, some 3, some 4] Y (.cons (.tmp Y)<|.cons (.tmp Y)<|.cons (.tmp Y) .nil) (.cons Y (ro1 (by exact tZ_102.symm)<|rlc (.own _ Y)<|rlc (.own _ Y)<|rlc (.dat Y)<|rlc (.dat Y)<|rlc (.dat Y)<|rlc (.dat Y)<|rlc (.dat Y) rln)<|.dead<|.dead<|.cons Y (roO Xo)<|.cons Y (roM D105) .nil) Y Y<|X0<|rlc (.dat Y)<|rlc (.dat Y)<|rlc (.dat Y) rln
 ·
  refine Zh<|Zg<|K3 0 2 4 Y<|Tr<|Rq Y (Xc (ov Y) Qq (ZX<|Zq arL) arL)<|bE h fun y2 h_y2 h=>Rq Y (Zo (Zew h_y2)<|.cons (ov Y) (.aggB<|arD fun _ => Y) .nil)<|Rl tZ_149 Zdy Y<|R2 ZcN Y<|Za<|K4 0 2 4 28 Y<|If h Y (fun h=>?_) fun h=>?_
  ·
   refine K0<|Tr<|Ra Y<|Ra Y<|Ra Y<|Za<|?_
   obtain rfl := rt h
   exact Zn<|Zbd [some 0, some 1, some 2, some 3, some 4] Y (.cons (.tmp Y)<|.cons (.tmp Y)<|.cons (.tmp Y) .nil) (.cons Y (ro1 (by exact tZ_102.symm)<|rlc (.own _ Y)<|rlc (.own _ Y)<|rlc (.dat Y)<|rlc (.dat Y)<|rlc (.dat Y)<|rlc (.dat Y)<|rlc (.dat Y) rln)<|.dead<|.dead<|.cons Y (roO Xo)<|.cons Y (roM D105) .nil) Y Y<|X0<|rlc (.dat Y)<|rlc (.dat Y)<|rlc (.dat Y) rln
  ·
   refine Zh<|K3 0 2 4 Y<|Tr<|Rq Y (Xc (ov Y) Qq (ZX<|Zq arL) arL)<|bE h fun y3 h_y3 h=>Rq Y (Zo (ZdV h_y3)<|.cons (ov Y) (.aggB<|arD fun _ => Y) .nil)<|Rm Y<|Rq Y (Zl (ov Y) Y)<|Rq Y (Zl (ov Y) Y)<|Ra Y<|Ra Y<|Za<|Zg<|K4 0 2 4 10 Y<|Qp (cw := md0) (by kernel_rfl)<|D1 0 Zc Y<|D1 1 Zc Y<|Dq 2 Y (Zv (ov Y) Y Y)<|Dq 3 Y (Zk (ov Y) Y Y Zc2)<|Dq 4 Y (Zk (ov Y) Y Y Zco)<|Dq 5 Y (Zu (ov Y) Y Y Y ZiB Y)<|Dq 6 Y (ZeD (ov Y) Y Y ZcF)<|D1 7 Zc Y<|Dq 8 Y (Zv (ov Y) Y Y)<|Dq 9 Y (Zk (ov Y) Y Y ZlQ)<|Dq 10 Y (Zu (ov Y) Y Y Y tS3 Y)<|bE h fun y4 h_y4 h=>Dq 11 Y (Zo (ZgL h_y4)<|.cons (ov Y) (.b Y)<|.cons (ov Y) (.b Y)<|.cons (ov Y) (.b Y) .nil)<|D1 12 Z8 Y<|Dd<|Zg<|K5 0 2 4 10 12 Y<|Tr<|Rm Y<|Rq Y (Zv (ov Y) Y Y)<|Rq Y (Zk (ov Y) Y Y Zc2)<|Rm Y<|bE h fun y5 h_y5 h=>Rq Y (Zcn (Zfl h_y5) .int<|.cons (ov Y) (View.ptrS (j := 0) (k := 2) Y Y Y (Nat.le_of_ble_eq_true Y)<|.cons (View.ownO Y Y Xo (fun x=>(D26 x).1) Zjv)<|.cons (View.ownM Y Y D105) .nil)<|.cons (ov Y) (Dat.view<|.b Y) .nil)<|Ra Y<|Za<|K6 0 2 4 10 12 13 Y<|Tr<|Rm Y<|R2 Xp Y<|Za<|K7 0 2 4 10 12 13 52 Y<|If h Y (fun h=>?_) fun h=>?_
   ·
    refine K1 13 Y<|Tr<|Rm Y<|Ra Y<|Ra Y<|Ra Y<|Za<|?_
    obtain rfl := rt h
    exact Zn<|Zbd [some 0, some 1, some 2, some 3, some 4] Y (.cons (.tmp Y)<|.cons (.tmp Y)<|.cons (.tmp Y) .nil) (.cons Y (ro1 (by exact tZ_102.symm)<|rlc (.own _ Y)<|rlc (.own _ Y)<|rlc (.dat Y)<|rlc (.dat Y)<|rlc (.dat Y)<|rlc (.dat Y)<|rlc (.dat Y) rln)<|.dead<|.dead<|.cons Y (roO Xo)<|.cons Y (roM D105) .nil) Y Y<|X0<|rlc (.dat Y)<|rlc (.dat Y)<|rlc (.dat Y) rln
   ·
    refine Zh<|K5 0 2 4 10 12 Y<|Tr<|Rq Y (Xc (ov Y) Qq (ZX<|Zq arL) arL)<|bE h fun y6 h_y6 h=>Rq Y (Zo (Zgu h_y6)<|.cons (ov Y) (.aggB<|arD fun _ => Y) .nil)<|Rm Y<|Rq Y (Zl (ov Y) Y)<|Rq Y (Zl (ov Y) Y)<|Ra Y<|Ra Y<|Za<|J8 (fun j => (.inr j)) (fun memories spots copies frozen stopped last some_ power2=>⟨[(0, .ptr 0 1 0 0), (2, .int .i64 power2), (10, .int .i64 y3.1)], [some ⟨102, [[.own 3 memories.length, .own 4 spots.length, .int .i64 copies, .bool frozen, .bool stopped, .int .i64 last, .bool some_]]⟩, none, none, some ⟨26, List.map O26 memories⟩, some ⟨105, List.map R105 spots⟩]⟩) h (fun h=>?_) fun memories spots copies frozen stopped last some_ power2 h=>?_
    ·
     refine K5 0 2 10 12 14 Y<|Tr<|Rm Y<|Rl tZ_3 Q3 Y<|Rm Y<|Za<|Ze<|?_
     obtain ⟨r1, hl1, ho1⟩ := QI h
     refine L9 (fun memories2 spots2 copies2 frozen2 stopped2 last2 some_2 power3 i=>⟨[(0, .ptr 0 1 0 0), (2, .int .i64 power3), (10, .int .i64 y3.1), (14, .sl 5 (List.map R5 y6.1)), (59, .sl 3 (List.map R3 y4)), (60, .int .i64 (y4.length : Int)), (61, .int .i64 i)], [some ⟨102, [[.own 3 memories2.length, .own 4 spots2.length, .int .i64 copies2, .bool frozen2, .bool stopped2, .int .i64 last2, .bool some_2]]⟩, none, none, some ⟨26, List.map O26 memories2⟩, some ⟨105, List.map R105 spots2⟩]⟩) hl1 (ES [some 0, some 1, some 2, some 3, some 4] (hhp := .cons Y (ro1 (by exact tZ_102.symm)<|rlc (.own _ Y)<|rlc (.own _ Y)<|rlc (.dat Y)<|rlc (.dat Y)<|rlc (.dat Y)<|rlc (.dat Y)<|rlc (.dat Y) rln)<|.dead<|.dead<|.cons Y (roO Xo)<|.cons Y (roM D105) .nil)) fun n1 memories2 spots2 copies2 frozen2 stopped2 last2 some_2 power3 i h=>?_
     unfold QX at h
     refine Tr<|R2 ZO Y<|Za<|Zg<|If h Y (fun h=>?_) fun h=>?_
     ·
      refine Zh<|Zg<|Ze<|K7 0 2 10 14 59 60 61 Y<|Tr<|bE h fun x h_x h=>Rq Y (ZQ (ov Y) (ov Y) Q3 h_x)<|Rq Y (Zd (ov Y) tS3 Y)<|Ra Y<|Za<|K8 0 2 10 14 17 59 60 61 Y<|Tr<|Ra Y<|Za<|Zg<|Qp (cw := ⟨true, false, [], [], []⟩) (by kernel_rfl)<|D1 0 Zc Y<|Dq 1 Y (Zv (ov Y) Y Y)<|Dq 2 Y (Zk (ov Y) Y Y Zc2)<|D1 3 Zc Y<|D1 4 Zc Y<|D1 5 Zc Y<|Dq 6 Y (Zjh (Qv (ov Y) tZ_5) Z5<|ZfK _ _)<|D1 7 Zc Y<|Dq 8 Y (Zjh (Qv (ov Y) tZ_5) Z5<|ZfK _ _)<|bE h fun l h_l h=>Dq 9 Y (Zj6 (ov Y) Z5 (ov Y) (ov Y) h_l)<|D1 10 Zc Y<|bE h fun y7 h_y7 h=>Do 11 Y (ZF [0, 3, 4] (Zcp h_y7) (.cons (ov Y) (.ptr _ _ _ Y)<|.cons (ov Y) (.dat Y)<|.cons (ov Y) (.dat Y)<|.cons (ov Y) (.dat Y) .nil) (.cons Y (ro1 (by exact tZ_102.symm)<|rlc (.own _ Y)<|rlc (.own _ Y)<|rlc (.dat Y)<|rlc (.dat Y)<|rlc (.dat Y)<|rlc (.dat Y)<|rlc (.dat Y) rln)<|.cons Y (roO Xo)<|.cons Y (roM D105) .nil) Y (.lent 0 (.inl Y) Y (ro1 (by exact tZ_102.symm)<|rlc (.own _<|.inr ⟨Nat.le_of_ble_eq_true Y, Y⟩)<|rlc (.own _<|.inr ⟨Nat.le_of_ble_eq_true Y, Y⟩)<|rlc (.dat Y)<|rlc (.dat Y)<|rlc (.dat Y)<|rlc (.dat Y)<|rlc (.dat Y) rln)<|.none<|.none<|.none<|.none<|.lent 3 (.inr ⟨Nat.le_of_ble_eq_true Y, Y⟩) Y (roO Xo)<|.lent 4 (.inr ⟨Nat.le_of_ble_eq_true Y, Y⟩) Y (roM D105) .nil) Y Y<|X0<|rld Y)<|D1 12 Zc Y<|Dq 13 Y (Zl (ov Y) Y)<|Dq 14 Y (Zl (ov Y) Y)<|D1 15 Z8 Y<|D1 16 Z8 Y<|Dd<|K8 0 2 10 14 18 59 60 61 Y<|QQ [some ⟨102, [[.own 5 y7.2.2.bank.memories.length, .own 6 y7.2.2.bank.spots.length, .int .i64 y7.2.2.copies, .bool y7.2.2.frozen, .bool y7.2.2.stopped, .int .i64 y7.2.2.last, .bool y7.2.2.some_]]⟩, none, none, none, none, some ⟨26, List.map O26 y7.2.2.bank.memories⟩, some ⟨105, List.map R105 y7.2.2.bank.spots⟩] Y<|Tr<|Rm Y<|R1 X2 Y<|Za<|K8 0 2 10 14 59 60 61 81 Y<|If h Y (fun h=>?_) fun h=>?_
      ·
       refine K2 0 2 Y<|Tr<|Rm Y<|Rq Y (Zv (ov Y) Y Y)<|Rq Y (Zk (ov Y) Y Y Zj3)<|Rx Y (Zi (ov Y) (ov Y) (Zf tS4) Y Y Y (Nat.le_of_ble_eq_true Y) (Zb Y) Y)<|Za<|K1 2 Y<|QQ [some ⟨102, [[.own 5 y7.2.2.bank.memories.length, .own 6 y7.2.2.bank.spots.length, .int .i64 y7.2.2.copies, .bool y7.2.2.frozen, .bool true, .int .i64 y7.2.2.last, .bool y7.2.2.some_]]⟩, none, none, none, none, some ⟨26, List.map O26 y7.2.2.bank.memories⟩, some ⟨105, List.map R105 y7.2.2.bank.spots⟩] Y<|Tr<|Rm Y<|Ra Y<|Ra Y<|Ra Y<|Za<|?_
       replace h := lx h ▸ ho1
       obtain rfl := rt h
       exact Zn<|Zbd [some 0, some 1, some 2, some 5, some 6] Y (.cons (.tmp Y)<|.cons (.tmp Y)<|.cons (.tmp Y) .nil) (.cons Y (ro1 (by exact tZ_102.symm)<|rlc (.own _ Y)<|rlc (.own _ Y)<|rlc (.dat Y)<|rlc (.dat Y)<|rlc (.dat Y)<|rlc (.dat Y)<|rlc (.dat Y) rln)<|.dead<|.dead<|.cons Y (roO Xo)<|.cons Y (roM D105) .nil) Y Y<|X0<|rlc (.dat Y)<|rlc (.dat Y)<|rlc (.dat Y) rln
      ·
       exact Zh<|K7 0 2 10 14 59 60 61 Y<|Zt<|R2 ZM Y<|Rm Y<|Za<|⟨_, h, ES [some 0, some 1, some 2, some 5, some 6] (hhp := .cons Y (ro1 (by exact tZ_102.symm)<|rlc (.own _ Y)<|rlc (.own _ Y)<|rlc (.dat Y)<|rlc (.dat Y)<|rlc (.dat Y)<|rlc (.dat Y)<|rlc (.dat Y) rln)<|.dead<|.dead<|.cons Y (roO Xo)<|.cons Y (roM D105) .nil)⟩
     ·
      refine ZE<|?_
      replace h := lx h ▸ ho1
      exact ⟨_, h, ES [some 0, some 1, some 2, some 3, some 4] (hhp := .cons Y (ro1 (by exact tZ_102.symm)<|rlc (.own _ Y)<|rlc (.own _ Y)<|rlc (.dat Y)<|rlc (.dat Y)<|rlc (.dat Y)<|rlc (.dat Y)<|rlc (.dat Y) rln)<|.dead<|.dead<|.cons Y (roO Xo)<|.cons Y (roM D105) .nil)⟩
    ·
     replace h := elr h
     replace h := t8i h
     refine Tr<|Rm Y<|Rm Y<|Rm Y<|Rq Y (Zv (ov Y) Y Y)<|Rq Y (Zk (ov Y) Y Y ZlK)<|Rx Y (Zi (ov Y) (ov Y) (Zf tS3) Y Y Y (Nat.le_of_ble_eq_true Y) (Zb Y) Y)<|Rq Y (Zv (ov Y) Y Y)<|Rq Y (Zk (ov Y) Y Y Zlp)<|Rx Y (Zi (ov Y) (ov Y) (Zf tS4) Y Y Y (Nat.le_of_ble_eq_true Y) (Zb Y) Y)<|Za<|K1 2 Y<|QQ [some ⟨102, [[.own 3 memories.length, .own 4 spots.length, .int .i64 copies, .bool frozen, .bool stopped, .int .i64 y3.1, .bool true]]⟩, none, none, some ⟨26, List.map O26 memories⟩, some ⟨105, List.map R105 spots⟩] Y<|Tr<|Rm Y<|Ra Y<|Ra Y<|Ra Y<|Za<|?_
     obtain rfl := rt h
     exact Zn<|Zbd [some 0, some 1, some 2, some 3, some 4] Y (.cons (.tmp Y)<|.cons (.tmp Y)<|.cons (.tmp Y) .nil) (.cons Y (ro1 (by exact tZ_102.symm)<|rlc (.own _ Y)<|rlc (.own _ Y)<|rlc (.dat Y)<|rlc (.dat Y)<|rlc (.dat Y)<|rlc (.dat Y)<|rlc (.dat Y) rln)<|.dead<|.dead<|.cons Y (roO Xo)<|.cons Y (roM D105) .nil) Y Y<|X0<|rlc (.dat Y)<|rlc (.dat Y)<|rlc (.dat Y) rln
theorem ZgO {l : List api_Memory} {r : (List api_Memory)} (h : XD l = some r) :
 CSpec Tryz.prog gl0 63 [.sl 26 (List.map R26 l)] (.sl 26 (List.map R26 r)) := by
 unfold XD at h
 replace h := Z0 h
 refine So Tryz.func63 Y fun w0 A=>Tr<|Ra Y<|Za<|K1 0 Y<|Tr<|Ra Y<|Za<|I1 (fun out=>⟨[(3, .own 0 out.length)], [some ⟨26, List.map O26 out⟩]⟩) h (fun h=>?_) fun out h=>?_
 ·
  refine Tr<|Rm Y<|Rl tZ_26 ZcF Y<|Rm Y<|Za<|Ze<|?_
  obtain ⟨r1, hl1, ho1⟩ := QI h
  refine L2 (fun out2 i=>⟨[(3, .own 0 out2.length), (6, .sl 26 (List.map R26 l)), (7, .int .i64 (l.length : Int)), (8, .int .i64 i)], [some ⟨26, List.map O26 out2⟩]⟩) hl1 (ES [none]) fun n1 out2 i h=>?_
  unfold Jf at h
  refine Tr<|R2 ZO Y<|Za<|Zg<|If h Y (fun h=>?_) fun h=>?_
  ·
   exact Zh<|Zg<|Ze<|K4 3 6 7 8 Y<|Tr<|bE h fun x h_x h=>Rq Y (ZQ (ov Y) (ov Y) ZcF h_x)<|Rq Y (Xc (ov Y) Jg Y Y)<|Rx Y (ZN (row := [_, _, _, _, _]) 1 Y Zdk Y tZ_26)<|Rx Y (Zi (ov Y) (ov Y) (Zs Jg Y) Y Y Y (Nat.le_of_ble_eq_true Y) (Zb Y) Y)<|Za<|K5 3 5 6 7 8 Y<|QQ [some ⟨26, List.map O26 out2⟩, some ⟨26, [[.int .i64 x.Slots, .int .i64 x.Limit, .sl 49 (List.map R49 x.Sectors), .sl 3 (List.map R3 x.Wear), .sl 4 (List.map R4 x.Bad)]]⟩] Y<|Zt<|Rm Y<|Rq Y (Qe (ov Y) Y Y Y Jg Y Y)<|bE h fun y h_y h=>Rx Y (ZF [] (Zb4 h_y) (.cons (ov Y) (Zed<|rld Y) .nil) .nil Y (.keep Y Y<|.keep Y Y<|.lent 0 (.inr ⟨Nat.le_of_ble_eq_true Y, Y⟩) Y (roO Xn)<|.lent 1 (.inr ⟨Nat.le_of_ble_eq_true Y, Y⟩) Y (roM D3)<|.lent 2 (.inr ⟨Nat.le_of_ble_eq_true Y, Y⟩) Y (roM D4) .nil) Y Y<|Zed<|rlc (.dat Y)<|rlc (.dat Y)<|rlc (.own _<|.inr ⟨Nat.le_of_ble_eq_true Y, Y⟩)<|rlc (.own _<|.inr ⟨Nat.le_of_ble_eq_true Y, Y⟩)<|rlc (.own _<|.inr ⟨Nat.le_of_ble_eq_true Y, Y⟩) rln)<|Rx Y (Qo (r := 5) Y ZcF (.cons (cva<|ov Y) Y .nil) Y Y)<|bE h fun l2 h_l2 h=>Rx Y (ZD (f := O26) (ov Y) (ZU (o := ⟨26, [[.int .i64 y.Slots, .int .i64 y.Limit, .own 2 y.Sectors.length, .own 3 y.Wear.length, .own 4 y.Bad.length]]⟩) (ov Y) Y Y tZ_26) ZcF Y Y (Zb Y) Y h_l2)<|Ra Y<|ZeC [some ⟨26, List.set (List.map O26 l2) out2.length [.int .i64 y.Slots, .int .i64 y.Limit, .own 2 y.Sectors.length, .own 3 y.Wear.length, .own 4 y.Bad.length]⟩, some ⟨26, [[.int .i64 x.Slots, .int .i64 x.Limit, .sl 49 (List.map R49 x.Sectors), .sl 3 (List.map R3 x.Wear), .sl 4 (List.map R4 x.Bad)]]⟩, some ⟨49, List.map O49 y.Sectors⟩, some ⟨3, List.map R3 y.Wear⟩, some ⟨4, List.map R4 y.Bad⟩, some ⟨26, [[.int .i64 y.Slots, .int .i64 y.Limit, .own 2 y.Sectors.length, .own 3 y.Wear.length, .own 4 y.Bad.length]]⟩] Y<|QG (Ent.absorbH (r := 0) (j := 2) (q := 2) Y (Zp h_l2) Y Y (List.length_map ..) Y)<|QG (Ent.absorbH (r := 0) (j := 3) (q := 3) Y (Zp h_l2) Y Y (List.length_map ..) Y)<|QG (Ent.absorbH (r := 0) (j := 4) (q := 4) Y (Zp h_l2) Y Y (List.length_map ..) Y)<|QG (Ent.closeS (r := 0) Y (Zp h_l2) Y)<|Za<|K4 3 6 7 8 Y<|QQ [some ⟨26, List.map O26 l2⟩, some ⟨26, [[.int .i64 x.Slots, .int .i64 x.Limit, .sl 49 (List.map R49 x.Sectors), .sl 3 (List.map R3 x.Wear), .sl 4 (List.map R4 x.Bad)]]⟩, none, none, none, some ⟨26, [[.int .i64 y.Slots, .int .i64 y.Limit, .own 2 y.Sectors.length, .own 3 y.Wear.length, .own 4 y.Bad.length]]⟩] Y<|Zt<|R2 ZM Y<|Rm Y<|Za<|⟨_, h, ES [some 0] (hhp := .cons Y (roO Xo) .nil)⟩
  ·
   refine ZE<|?_
   replace h := lx h ▸ ho1
   exact ⟨_, h, ES [some 0] (hhp := .cons Y (roO Xo) .nil)⟩
 ·
  refine Tr<|Rm Y<|Ra Y<|Za<|?_
  obtain rfl := rt h
  exact Zn (ZC Y (.one<|.tmp Y<|View.ownO Y Y Xo (fun x=>(D26 x).1) Zjv))
theorem Zcm {r_ : ring_Recorder} {r : (List api_Memory)} (h : Qx r_ = some r) :
 GSpec Tryz.prog gl0 16 [.ptr 0 1 0 0] [some ⟨102, [[.own 1 r_.bank.memories.length, .own 2 r_.bank.spots.length, .int .i64 r_.copies, .bool r_.frozen, .bool r_.stopped, .int .i64 r_.last, .bool r_.some_]]⟩, some ⟨26, List.map O26 r_.bank.memories⟩, some ⟨105, List.map R105 r_.bank.spots⟩] (.sl 26 (List.map R26 r)) [some ⟨102, [[.sl 26 (List.map R26 r_.bank.memories), .own 3 r_.bank.spots.length, .int .i64 r_.copies, .bool r_.frozen, .bool r_.stopped, .int .i64 r_.last, .bool r_.some_]]⟩, none, none, some ⟨105, List.map R105 r_.bank.spots⟩] := by
 unfold Qx at h
 replace h := Z0 h
 refine QF (by kernel_rfl) Tryz.func16 Y Y<|?_
 intro w0 A W φ0
 refine Ze6 (Ent.sel [some 0, some 1, some 2, some 1, some 2] (sr 0 Y (.ptr (r' := 0) _ _ _ Y) sn) (.cons Y (ro1 (by exact tZ_102.symm)<|rlc (.own (r' := 3) _ Y)<|rlc (.own (r' := 4) _ Y)<|rlc (.dat Y)<|rlc (.dat Y)<|rlc (.dat Y)<|rlc (.dat Y)<|rlc (.dat Y) rln)<|.dead<|.dead<|.cons Y (roO Xo)<|.cons Y (roM D105) .nil) Y Y)<|QQ [some ⟨102, [[.own 3 r_.bank.memories.length, .own 4 r_.bank.spots.length, .int .i64 r_.copies, .bool r_.frozen, .bool r_.stopped, .int .i64 r_.last, .bool r_.some_]]⟩, none, none, some ⟨26, List.map O26 r_.bank.memories⟩, some ⟨105, List.map R105 r_.bank.spots⟩] Y<|Tr<|Ra Y<|Za<|Tr<|Rm Y<|Rq Y (Zv (ov Y) Y Y)<|Rq Y (Zk (ov Y) Y Y Zc2)<|Rq Y (Zk (ov Y) Y Y Zco)<|Rq Y (Zu (ov Y) Y Y Y ZiB Y)<|bE h fun y h_y h=>QG (Ent.meltO (r := 3) Y Xo (fun x=>(D26 x).1) Zjv)<|QG (Ent.sel [some 0, some 1, some 2, none, some 4] (sr 0 Y (.ptr (r' := 0) _ _ _ Y)<|sd 2 Y Y<|sr 3 Y (.ptr (r' := 0) _ _ _ Y)<|sr 4 Y (.ptr (r' := 0) _ _ _ Y)<|sr 5 Y (.ptr (r' := 0) _ _ _ Y)<|sr 6 Y (.ptr (r' := 0) _ _ _ Y)<|sr 7 Y (ZmR Y Y Y D26) sn) (.cons Y (ro1 (by exact tZ_102.symm)<|rlc (ZmR Y Y Y D26)<|rlc (.own (r' := 4) _ Y)<|rlc (.dat Y)<|rlc (.dat Y)<|rlc (.dat Y)<|rlc (.dat Y)<|rlc (.dat Y) rln)<|.dead<|.dead<|.row 26<|.cons Y (roM D105) .nil) Y Y)<|Rq Y (Zo (ZgO h_y)<|.cons (ov Y) (.b Y) .nil)<|Ra Y<|Za<|?_
 obtain rfl := rt h
 exact Zn<|Zbd [some 0, some 1, some 2, some 4] Y (.cons (.tmp Y) .nil) (.cons Y (ro1 (by exact tZ_102.symm)<|rlc (.dat Y)<|rlc (.own _ Y)<|rlc (.dat Y)<|rlc (.dat Y)<|rlc (.dat Y)<|rlc (.dat Y)<|rlc (.dat Y) rln)<|.dead<|.dead<|.cons Y (roM D105) .nil) Y Y<|.dat Y
theorem ZgN {p : Vector Int 96} {i : Int} {r : Int} (h : X7 p i = some r) :
 CSpec Tryz.prog gl0 139 [.rp (List.map C5 p.toList) 0, .int .i64 i] (.int .u16 r) := by
 unfold X7 at h
 replace h := Z0 h
 refine So Tryz.func139 Y fun w0 A=>Tr<|Ra Y<|Za<|K2 0 1 Y<|Tr<|Rm Y<|bE h fun q h_q h=>Rq Y (Zcc (ov Y) (ov Y) h_q)<|R2 Zea Y<|Ra Y<|Za<|Zg<|K3 0 1 5 Y<|Tr<|Rm Y<|bE h fun q2 h_q2 h=>Rq Y (XY (ov Y) (ov Y) h_q2)<|R2 ZaJ Y<|Za<|K3 0 5 11 Y<|If h Y (fun h=>?_) fun h=>?_
 ·
  refine Zg<|K2 0 5 Y<|Qp (cw := md0) (by kernel_rfl)<|D1 0 Zc Y<|D1 1 Zc Y<|D1 2 Zy Y<|bE h fun x h_x h=>Dq 3 Y (QD (ov Y) (ov Y) Zc7 h_x)<|Dq 4 Y (Zd (ov Y) tS5<|Qi<|Q9 (o := 0) (o' := ((i64 (q * 3)).toNat * 1)) (Zq arL)<|Xa h_x)<|Dq 5 Y (Z7 (ov Y) tI5 ZcR Y)<|bE h fun q3 h_q3 h=>Dq 6 Y (ZdI (ov Y) (ov Y) h_q3)<|D1 7 Zc Y<|D1 8 Zc Y<|D2 9 ZM Y<|D1 10 Zy Y<|bE h fun x2 h_x2 h=>Dq 11 Y (QD (ov Y) (ov Y) Zc7 h_x2)<|Dq 12 Y (Zd (ov Y) tS5<|Qi<|Q9 (o := 0) (o' := ((i64 ((i64 (q * 3)) + 1)).toNat * 1)) (Zq arL)<|Xa h_x2)<|Dq 13 Y (Z7 (ov Y) tI5 ZcR Y)<|bE h fun q4 h_q4 h=>Dq 14 Y (ZbB (ov Y) (ov Y) h_q4)<|D2 15 Ze5 Y<|D1 16 Z8 Y<|Dd<|?_
  obtain rfl := rt h
  exact Zn (ZC Y (.one<|rb Y))
 ·
  refine Zh<|Zg<|K2 0 5 Y<|Qp (cw := md0) (by kernel_rfl)<|D1 0 Zc Y<|D1 1 Zc Y<|D2 2 ZM Y<|D1 3 Zy Y<|bE h fun x3 h_x3 h=>Dq 4 Y (QD (ov Y) (ov Y) Zc7 h_x3)<|Dq 5 Y (Zd (ov Y) tS5<|Qi<|Q9 (o := 0) (o' := ((i64 ((i64 (q * 3)) + 1)).toNat * 1)) (Zq arL)<|Xa h_x3)<|Dq 6 Y (Z7 (ov Y) tI5 ZcR Y)<|D2 7 Zau Y<|bE h fun q5 h_q5 h=>Dq 8 Y (ZdI (ov Y) (ov Y) h_q5)<|D1 9 Zc Y<|D1 10 Zc Y<|D2 11 ZM Y<|D1 12 Zy Y<|bE h fun x4 h_x4 h=>Dq 13 Y (QD (ov Y) (ov Y) Zc7 h_x4)<|Dq 14 Y (Zd (ov Y) tS5<|Qi<|Q9 (o := 0) (o' := ((i64 ((i64 (q * 3)) + 2)).toNat * 1)) (Zq arL)<|Xa h_x4)<|Dq 15 Y (Z7 (ov Y) tI5 ZcR Y)<|D2 16 Ze5 Y<|D1 17 Z8 Y<|Dd<|?_
  obtain rfl := rt h
  exact Zn (ZC Y (.one<|rb Y))
theorem ZhY {p : Vector Int 96} {r : (Vector Int 64)} (h : Zas p = some r) :
 CSpec Tryz.prog gl0 118 [.rp (List.map C5 p.toList) 0] (.agg (List.map C40 r.toList)) := by
 unfold Zas at h
 replace h := Z0 h
 refine So Tryz.func118 Y fun w0 A=>Tr<|Rx Y (ZN (row := (List.map C40 (Vector.replicate 64 0).toList)) 0 Y Zby Y tZ_42)<|Za<|Tr<|Rx Y (ZN (row := (List.map C40 (Vector.replicate 64 0).toList)) 1 Y Zby Y tZ_42)<|Za<|I1 (fun f=>⟨[(2, .ptr 0 1 0 0), (3, .ptr 1 1 0 0)], [some ⟨42, [(List.map C40 (Vector.replicate 64 0).toList)]⟩, some ⟨42, [(List.map C40 f.toList)]⟩]⟩) h (fun h=>?_) fun f h=>?_
 ·
  refine Tr<|Rm Y<|Za<|Ze<|?_
  obtain ⟨r1, hl1, ho1⟩ := QI h
  refine L2 (fun f2 i=>⟨[(0, .rp (List.map C5 p.toList) 0), (2, .ptr 0 1 0 0), (3, .ptr 1 1 0 0), (5, .int .i64 i)], [some ⟨42, [(List.map C40 (Vector.replicate 64 0).toList)]⟩, some ⟨42, [(List.map C40 f2.toList)]⟩]⟩) hl1 (ES [some 0, some 1]) fun n1 f2 i h=>?_
  unfold XK at h
  refine Tr<|R2 ZO Y<|Za<|Zg<|If h Y (fun h=>?_) fun h=>?_
  ·
   exact Zh<|Zg<|Ze<|K4 0 2 3 5 Y<|Tr<|Rm Y<|Ra Y<|Za<|K5 0 2 3 4 5 Y<|Zt<|Rm Y<|Rm Y<|Rm Y<|bE h fun y h_y h=>Rq Y (Zo (ZgN h_y)<|.cons (ov Y) (.b Y)<|.cons (ov Y) (.b Y) .nil)<|bE h fun x h_x h=>Rq Y (XV (ov Y) (ov Y) XT Y Y h_x)<|Rx Y (Zi (ov Y) (ov Y) (Zf Zar) Y Y Y (arB h_x) (Zb Y)<|arS h_x)<|Za<|K4 0 2 3 5 Y<|Zt<|R2 ZM Y<|Rm Y<|Za<|⟨_, h, ES [some 0, some 1]⟩
  ·
   refine ZE<|?_
   replace h := lx h ▸ ho1
   exact ⟨_, h, ES [some 0, some 1]⟩
 ·
  refine Tr<|Rq Y (Qe (ov Y) Y Y Y Qq (ZX<|Zq arL) arL (hns := (nsM fun _ => Y)))<|Rx Y (Zi (ov Y) (ov Y) (Zs Qq arL) Y Y Y (QL (Zq arL) arL) (Zb<|arC fun _ => Y)<|Qj<|Eq.trans arL<|Eq.symm arL)<|Za<|?_
  obtain rfl := rt h
  exact Zn (ZC Y (.one<|.agg Y Y Y Y Qq (ZX<|Zq arL) arL (pwB<|arD fun _ => Y) (hns := (nsM fun _ => Y))))
theorem ZcH {b : List Int} {r : (Vector Int 64) × Int} (h : QA b = some r) :
 CSpec Tryz.prog gl0 79 [.sl 5 (List.map R5 b)] (.tuple [.agg (List.map C40 r.1.toList), .int .i64 r.2]) := by
 unfold QA at h
 replace h := Z0 h
 refine So Tryz.func79 Y fun w0 A=>Tr<|Rx Y (ZN (row := (List.map C40 (Vector.replicate 64 0).toList)) 0 Y Zby Y tZ_42)<|Ra Y<|Za<|Zg<|K2 0 2 Y<|Tr<|Rm Y<|Rl tZ_5 Z5 Y<|R2 ZO Y<|Za<|K3 0 2 7 Y<|If h Y (fun h=>?_) fun h=>?_
 ·
  refine K1 2 Y<|Tr<|R_q (.agg<|List.map C40 (#v[0, 0, 0, 0, 0, 0, 0, 0, 0, 0, 0, 0, 0, 0, 0, 0, 0, 0, 0, 0, 0, 0, 0, 0, 0, 0, 0, 0, 0, 0, 0, 0, 0, 0, 0, 0, 0, 0, 0, 0, 0, 0, 0, 0, 0, 0, 0, 0, 0, 0, 0, 0, 0, 0, 0, 0, 0, 0, 0, 0, 0, 0, 0, 0] : Vector Int 64).toList) Y (Jj (ys := [_, _, _, _, _, _, _, _, _, _, _, _, _, _, _, _, _, _, _, _, _, _, _, _, _, _, _, _, _, _, _, _, _, _, _, _, _, _, _, _, _, _, _, _, _, _, _, _, _, _, _, _, _, _, _, _, _, _, _, _, _, _, _, _]) XT Zby .nil Y)<|Rx Y (Zi (ov Y) (ov Y) (Zs Qq arL) Y Y Y (QL (Zq arL) arL) (Zb<|arC fun _ => Y)<|Qj<|Eq.trans arL<|Eq.symm arL)<|Ra Y<|Za<|?_
  obtain rfl := rt h
  exact Zn (ZC Y (.two (.agg Y Y Y Y Qq (ZX<|Zq arL) arL (pwB<|arD fun _ => Y) (hns := (nsM fun _ => Y)))<|rb Y))
 ·
  refine Zh<|K2 0 2 Y<|Tr<|Rm Y<|bE h fun l h_l h=>Rq Y (Zeg (ov Y) Z5 on (oi<|ov Y) h_l)<|bE h fun v h_v h=>Rq Y (Zjn (f := C5) (ov Y) Zc7 tZ_5 Y h_v)<|Rq Y (Xc (ov Y) ZlW (ZX<|Zq arL) arL)<|Rx Y (ZN (row := (List.map C5 (Vector.replicate 96 0).toList)) 1 Y ZlZ Y tZ_157)<|Rx Y (Zi (ov Y) (ov Y) (Zs ZlW arL) Y Y Y (QL (Zq arL) arL) (Zb<|arC fun _ => Y)<|Qj<|Eq.trans arL<|Eq.symm arL)<|Za<|K2 2 4 Y<|Tr<|bE h fun y h_y h=>Rq Y (Zcn (ZhY h_y) (ZiX fun _=>.int)<|.cons (ov Y) (View.ptr Y Y Y (pwB<|arD fun _ => Y) (hns := (nsM fun _ => Y))) .nil)<|Rx Y (Zi (ov Y) (ov Y) (Zs Qq arL) Y Y Y (QL (Zq arL) arL) (Zb<|arC fun _ => Y)<|Qj<|Eq.trans arL<|Eq.symm arL)<|Ra Y<|Za<|?_
  obtain rfl := rt h
  exact Zn (ZC Y (.two (.agg Y Y Y Y Qq (ZX<|Zq arL) arL (pwB<|arD fun _ => Y) (hns := (nsM fun _ => Y)))<|rb Y))
theorem ZgV {l : List api_Memory} {r : (List api_Kept) × Int} (h : Zbc l = some r) :
 CSpec Tryz.prog gl0 26 [.sl 26 (List.map R26 l)] (.tuple [.sl 65 (List.map R65 r.1), .int .i64 r.2]) := by
 unfold Zbc at h
 replace h := Z0 h
 refine So Tryz.func26 Y fun w0 A=>Tr<|Ra Y<|Ra Y<|Za<|Zg<|K1 0 Y<|Tr<|Rm Y<|bE h fun y h_y h=>Rq Y (Zo (Zdr h_y)<|.cons (ov Y) (.b Y) .nil)<|Ra Y<|Za<|K2 0 4 Y<|Tr<|Rm Y<|R2 Xp Y<|Za<|K3 0 4 20 Y<|If h Y (fun h=>?_) fun h=>?_
 ·
  refine K1 4 Y<|Tr<|Rm Y<|Ra Y<|Ra Y<|Za<|?_
  obtain rfl := rt h
  exact Zn (ZC Y (.two (.tmp Y<|View.nils 65)<|rb Y))
 ·
  refine Zh<|K1 0 Y<|Tr<|Ra Y<|Za<|I1 (fun out=>⟨[(5, .own 0 out.length)], [some ⟨65, List.map R65 out⟩]⟩) h (fun h=>?_) fun out h=>?_
  ·
   refine Tr<|Rm Y<|Rl tZ_26 ZcF Y<|Rm Y<|Za<|Ze<|?_
   obtain ⟨r1, hl1, ho1⟩ := QI h
   refine L2 (fun out2 i=>⟨[(5, .own 0 out2.length), (22, .sl 26 (List.map R26 l)), (23, .int .i64 (l.length : Int)), (24, .int .i64 i)], [some ⟨65, List.map R65 out2⟩]⟩) hl1 (ES [none]) fun n1 out2 i h=>?_
   unfold Zan at h
   refine Tr<|R2 ZO Y<|Za<|Zg<|If h Y (fun h=>?_) fun h=>?_
   ·
    refine Zh<|I1 (fun out3=>⟨[(5, .own 0 out3.length), (22, .sl 26 (List.map R26 l)), (23, .int .i64 (l.length : Int)), (24, .int .i64 i)], [some ⟨65, List.map R65 out3⟩]⟩) h (fun h=>?_) fun out3 h=>?_
    ·
     refine Ze<|K4 5 22 23 24 Y<|Tr<|Rm Y<|bE h fun x h_x h=>Rq Y (ZQ (ov Y) (ov Y) ZcF h_x)<|Rq Y (Xc (ov Y) Jg Y Y)<|Rx Y (ZN (row := [_, _, _, _, _]) 1 Y Zdk Y tZ_26)<|Ra Y<|Rx Y (Zi (ov Y) (ov Y) (Zs Jg Y) Y Y Y (Nat.le_of_ble_eq_true Y) (Zb Y) Y)<|Za<|K6 5 6 7 22 23 24 Y<|Tr<|Rq Y (Qe (ov Y) Y Y Y Jg Y Y)<|bE h fun y2 h_y2 h=>Rq Y (Zo (Zd6 h_y2)<|.cons (ov Y) (.aggB Y) .nil)<|Rl tZ_3 Q3 Y<|Rm Y<|Za<|Ze<|?_
     obtain ⟨r2, hl2, ho2⟩ := QI h
     refine L2 (fun out4 i2=>⟨[(5, .own 0 out4.length), (6, .int .i64 i), (7, .ptr 1 1 0 0), (22, .sl 26 (List.map R26 l)), (23, .int .i64 (l.length : Int)), (24, .int .i64 i), (30, .sl 3 (List.map R3 y2)), (31, .int .i64 (y2.length : Int)), (32, .int .i64 i2)], [some ⟨65, List.map R65 out4⟩, some ⟨26, [[.int .i64 x.Slots, .int .i64 x.Limit, .sl 49 (List.map R49 x.Sectors), .sl 3 (List.map R3 x.Wear), .sl 4 (List.map R4 x.Bad)]]⟩]⟩) hl2 (ES [some 0, some 1]) fun n2 out4 i2 h=>?_
     unfold Zak at h
     refine Tr<|R2 ZO Y<|Za<|Zg<|If h Y (fun h=>?_) fun h=>?_
     ·
      refine Zh<|I1 (fun out5=>⟨[(5, .own 0 out5.length), (6, .int .i64 i), (7, .ptr 1 1 0 0), (22, .sl 26 (List.map R26 l)), (23, .int .i64 (l.length : Int)), (24, .int .i64 i), (30, .sl 3 (List.map R3 y2)), (31, .int .i64 (y2.length : Int)), (32, .int .i64 i2)], [some ⟨65, List.map R65 out5⟩, some ⟨26, [[.int .i64 x.Slots, .int .i64 x.Limit, .sl 49 (List.map R49 x.Sectors), .sl 3 (List.map R3 x.Wear), .sl 4 (List.map R4 x.Bad)]]⟩]⟩) h (fun h=>?_) fun out5 h=>?_
      ·
       refine Ze<|K9 5 6 7 22 23 24 30 31 32 Y<|Tr<|bE h fun x2 h_x2 h=>Rq Y (ZQ (ov Y) (ov Y) Q3 h_x2)<|Rq Y (Zd (ov Y) tS3 Y)<|Ra Y<|Za<|K10 5 6 7 9 22 23 24 30 31 32 Y<|Tr<|Rq Y (Zk (ov Y) Y Y ZG)<|Rq Y (Zu (ov Y) Y Y Y Qd Y)<|Rm Y<|bE h fun x3 h_x3 h=>Rq Y (ZQ (ov Y) (ov Y) Z1 h_x3)<|Rq Y (Zd (ov Y) ZgW Y)<|bE h fun y3 h_y3 h=>Rq Y (Zo (JM h_y3)<|.cons (ov Y) (.b Y) .nil)<|Rm Y<|Rq Y (Zl (ov Y) Y)<|Rq Y (Zl (ov Y) Y)<|Rq Y (Zl (ov Y) Y)<|Ra Y<|Ra Y<|Ra Y<|Za<|K11 5 6 7 9 10 22 23 24 30 31 32 Y<|Tr<|Rq Y (Zk (ov Y) Y Y Zhj)<|Rq Y (Zu (ov Y) Y Y Y tS3 Y)<|Rm Y<|Za<|Ze<|?_
       obtain ⟨r3, hl3, ho3⟩ := QI h
       refine L2 (fun out6 i3=>⟨[(5, .own 0 out6.length), (6, .int .i64 i), (7, .ptr 1 1 0 0), (9, .int .i64 x2), (10, .int .i64 y3.1), (22, .sl 26 (List.map R26 l)), (23, .int .i64 (l.length : Int)), (24, .int .i64 i), (30, .sl 3 (List.map R3 y2)), (31, .int .i64 (y2.length : Int)), (32, .int .i64 i2), (47, .int .i64 x.Slots), (48, .int .i64 i3)], [some ⟨65, List.map R65 out6⟩, some ⟨26, [[.int .i64 x.Slots, .int .i64 x.Limit, .sl 49 (List.map R49 x.Sectors), .sl 3 (List.map R3 x.Wear), .sl 4 (List.map R4 x.Bad)]]⟩]⟩) hl3 (ES [some 0, some 1]) fun n3 out6 i3 h=>?_
       unfold Zal at h
       refine Tr<|R2 ZO Y<|Za<|Zg<|If h Y (fun h=>?_) fun h=>?_
       ·
        refine Zh<|Zg<|Ze<|XO (kc 5 Y<|kc 6 Y<|kc 7 Y<|kc 9 Y<|kc 10 Y<|kc 22 Y<|kc 23 Y<|kc 24 Y<|kc 30 Y<|kc 31 Y<|kc 32 Y<|kc 47 Y<|kc 48 Y kn) Y<|Tr<|Rm Y<|Ra Y<|Za<|XO (kc 5 Y<|kc 6 Y<|kc 7 Y<|kc 9 Y<|kc 10 Y<|kc 13 Y<|kc 22 Y<|kc 23 Y<|kc 24 Y<|kc 30 Y<|kc 31 Y<|kc 32 Y<|kc 47 Y<|kc 48 Y kn) Y<|Tr<|Rq Y (Zk (ov Y) Y Y ZG)<|Rq Y (Zu (ov Y) Y Y Y Qd Y)<|Rm Y<|bE h fun x4 h_x4 h=>Rq Y (ZQ (ov Y) (ov Y) Z1 h_x4)<|Rq Y (Zd (ov Y) ZgW Y)<|Rm Y<|bE h fun y4 h_y4 h=>Rq Y (Zo (Za1 h_y4)<|.cons (ov Y) (.b Y)<|.cons (ov Y) (.b Y) .nil)<|Ra Y<|Za<|XO (kc 5 Y<|kc 6 Y<|kc 7 Y<|kc 9 Y<|kc 10 Y<|kc 13 Y<|kc 14 Y<|kc 22 Y<|kc 23 Y<|kc 24 Y<|kc 30 Y<|kc 31 Y<|kc 32 Y<|kc 47 Y<|kc 48 Y kn) Y<|Tr<|Rm Y<|bE h fun y5 h_y5 h=>Rq Y (Zo (Zb9 h_y5)<|.cons (ov Y) (.b Y) .nil)<|R2 ZaJ Y<|Za<|XO (kc 5 Y<|kc 6 Y<|kc 7 Y<|kc 9 Y<|kc 10 Y<|kc 13 Y<|kc 14 Y<|kc 22 Y<|kc 23 Y<|kc 24 Y<|kc 30 Y<|kc 31 Y<|kc 32 Y<|kc 47 Y<|kc 48 Y<|kc 60 Y kn) Y<|If h Y (fun h=>?_) fun h=>?_
        ·
         exact XO (kc 5 Y<|kc 6 Y<|kc 7 Y<|kc 9 Y<|kc 10 Y<|kc 13 Y<|kc 14 Y<|kc 22 Y<|kc 23 Y<|kc 24 Y<|kc 30 Y<|kc 31 Y<|kc 32 Y<|kc 47 Y<|kc 48 Y kn) Y<|Tr<|Rm Y<|R1 Zy Y<|bE h fun l2 h_l2 h=>Rq Y (Zjc (f := C5) (ov Y) Zi5 tZ_5 (Zq arL) Y on on h_l2)<|bE h fun y6 h_y6 h=>Rq Y (Zo (ZcH h_y6)<|.cons (ov Y) (.b Y) .nil)<|Rm Y<|Rq Y (Zl (ov Y) Y)<|Rq Y (Zl (ov Y) Y)<|Rx Y (ZN (row := (List.map C40 (Vector.replicate 64 0).toList)) 2 Y Zby Y tZ_42)<|Rx Y (Zi (ov Y) (ov Y) (Zs Qq arL) Y Y Y (QL (Zq arL) arL) (Zb<|arC fun _ => Y)<|Qj<|Eq.trans arL<|Eq.symm arL)<|Ra Y<|Za<|XO (kc 5 Y<|kc 6 Y<|kc 7 Y<|kc 9 Y<|kc 10 Y<|kc 13 Y<|kc 15 Y<|kc 22 Y<|kc 23 Y<|kc 24 Y<|kc 30 Y<|kc 31 Y<|kc 32 Y<|kc 47 Y<|kc 48 Y kn) Y<|Zt<|Rm Y<|Rm Y<|Rm Y<|Rm Y<|Rm Y<|Rq Y (Qe (ov Y) Y Y Y Qq (ZX<|Zq arL) arL (hns := (nsM fun _ => Y)))<|Rq Y (Zk5 (zr := (.int .i64 0) :: (.int .i64 0) :: (.int .i64 0) :: (.int .i64 0) :: ((List.map C40 (Vector.replicate 64 0).toList) ++ ([]))) ZmO ZmY Zme (by kernel_rfl) (.cons (cvs (ov Y)<|Zm Y)<|.cons (cvs (ov Y)<|Zm Y)<|.cons (cvs (ov Y)<|Zm Y)<|.cons (cvs (ov Y)<|Zm Y)<|.cons (cva<|ov Y) .nil)<|ZfA Y Y at1 pt2<|ZfA Y Y at3 pt4<|ZfA Y Y at5 pt6<|ZfA Y Y at7 pt8<|ZfA Y arL at9 Zni ZmE)<|R_q (.sl 65<|List.map R65 ([(api_Kept.mk i x2 y3.1 i3 y6.1)] : List api_Kept)) Y (XC Zlx (.cons (cva<|ov Y) ZcX (pwD Zfj) .nil) Y Y)<|bE h fun l3 h_l3 h=>Rx Y (Qr (ov Y) (Qv (ov Y) tZ_65) Zlx Y Y Y (fun x=>Zb<|E65 x) Y h_l3)<|Ra Y<|Za<|XO (kc 5 Y<|kc 6 Y<|kc 7 Y<|kc 9 Y<|kc 10 Y<|kc 22 Y<|kc 23 Y<|kc 24 Y<|kc 30 Y<|kc 31 Y<|kc 32 Y<|kc 47 Y<|kc 48 Y kn) Y<|Zt<|R2 ZM Y<|Rm Y<|Za<|⟨_, h, ES [some 0, some 1]⟩
        ·
         exact Zh<|XO (kc 5 Y<|kc 6 Y<|kc 7 Y<|kc 9 Y<|kc 10 Y<|kc 22 Y<|kc 23 Y<|kc 24 Y<|kc 30 Y<|kc 31 Y<|kc 32 Y<|kc 47 Y<|kc 48 Y kn) Y<|Zt<|R2 ZM Y<|Rm Y<|Za<|⟨_, h, ES [some 0, some 1]⟩
       ·
        refine ZE<|?_
        replace h := lx h ▸ ho3
        exact ⟨_, h, ES [some 0, some 1]⟩
      ·
       exact Zt<|R2 ZM Y<|Rm Y<|Za<|⟨_, h, ES [some 0, some 1]⟩
     ·
      refine ZE<|?_
      replace h := lx h ▸ ho2
      exact ⟨_, h, ES [some 0]⟩
    ·
     exact Zt<|R2 ZM Y<|Rm Y<|Za<|⟨_, h, ES [some 0]⟩
   ·
    refine ZE<|?_
    replace h := lx h ▸ ho1
    exact ⟨_, h, ES [some 0]⟩
  ·
   refine Tr<|Rm Y<|Ra Y<|Ra Y<|Za<|?_
   obtain rfl := rt h
   exact Zn (ZC Y (.two (.tmp Y<|View.ownM Y Y D65)<|rb Y))
theorem Zki {xs r : List Int} (h : ZgD xs = some r) :
    GSpec Tryz.prog gl0 83 [.own 0 xs.length] [some ⟨3, List.map R3 xs⟩] (.tuple []) [some ⟨3, List.map R3 r⟩] :=
  Zkt (g := R3) (fun _ => rfl) (by kernel_rfl) tZ_3 (fun _ _ _ _ _ h1 h2 h3 => Any.slices_Sort_int Tryz.lays189 _ _ _ _ _ h1 h2 h3) (fun p c w => Any.slices_Sort_int_none Tryz.lays189 p c w) h
theorem Zhw {l : List api_Memory} {r : (List (Vector Int 64)) × Int} (h : ZbP l = some r) :
 CSpec Tryz.prog gl0 29 [.sl 26 (List.map R26 l)] (.tuple [.sl 42 (List.map R42 r.1), .int .i64 r.2]) := by
 unfold ZbP at h
 replace h := Z0 h
 refine So Tryz.func29 Y fun w0 A=>Tr<|Ra Y<|Ra Y<|Za<|K1 0 Y<|Tr<|Rm Y<|bE h fun y h_y h=>Rq Y (Zo (ZgV h_y)<|.cons (ov Y) (.b Y) .nil)<|Rm Y<|Rq Y (Zl (ov Y) Y)<|Rq Y (Zl (ov Y) Y)<|Ra Y<|Ra Y<|Za<|Zg<|K2 4 5 Y<|Tr<|Rm Y<|R2 Xp Y<|Za<|K3 4 5 23 Y<|If h Y (fun h=>?_) fun h=>?_
 ·
  refine K1 5 Y<|Tr<|Rm Y<|Ra Y<|Ra Y<|Za<|?_
  obtain rfl := rt h
  exact Zn (ZC Y (.two (.tmp Y<|View.nils 42)<|rb Y))
 ·
  refine Zh<|K1 4 Y<|Tr<|Rx Y (Zkb 0 Y Zil)<|Ra Y<|Za<|K2 4 6 Y<|Tr<|Ra Y<|Za<|I2 (fun best numbers=>⟨[(6, .mref 0 1), (7, .own 1 numbers.length)], [some ⟨127, [[.mcon (List.map (Zaa FK3 ZeZ) best)]]⟩, some ⟨3, List.map R3 numbers⟩]⟩) h (fun h=>?_) fun best numbers h=>?_
  ·
   refine Tr<|Rm Y<|Rl tZ_65 Zlx Y<|Rm Y<|Za<|Ze<|?_
   obtain ⟨r1, hl1, ho1⟩ := QI h
   refine L3 (fun best2 numbers2 i=>⟨[(6, .mref 0 1), (7, .own 1 numbers2.length), (26, .sl 65 (List.map R65 y.1)), (27, .int .i64 (y.1.length : Int)), (28, .int .i64 i)], [some ⟨127, [[.mcon (List.map (Zaa FK3 ZeZ) best2)]]⟩, some ⟨3, List.map R3 numbers2⟩]⟩) hl1 (ES [some 0, none] (hhp := .cons Y (ZfE (fk := FK3) (fv := ZeZ) (m := ([] : List (Int × api_Kept))) tZ_127 (fun _=>.dat Y) fun _=>.ren<|Zed<|rld Zfj)<|.row 3 .nil)) fun n1 best2 numbers2 i h=>?_
   unfold ZaX at h
   refine Tr<|R2 ZO Y<|Za<|Zg<|If h Y (fun h=>?_) fun h=>?_
   ·
    refine Zh<|Zg<|Ze<|K5 6 7 26 27 28 Y<|Tr<|bE h fun x h_x h=>Rq Y (ZQ (ov Y) (ov Y) Zlx h_x)<|Rq Y (Xc (ov Y) ZlJ (ZX<|Zq ZcX) ZcX)<|Rx Y (ZN (row := (.int .i64 0) :: (.int .i64 0) :: (.int .i64 0) :: (.int .i64 0) :: ((List.map C40 (Vector.replicate 64 0).toList) ++ ([]))) 2 Y Zme (by kernel_rfl)<|by exact Eq.symm (Eq.trans (b := 68) ZcX tZ_65.symm))<|Rx Y (Zi (ov Y) (ov Y) (Zs ZlJ ZcX) Y Y Y (QL (Zq ZcX) ZcX) (Zb Zl7)<|Qj<|Eq.trans ZcX<|Eq.symm ZcX)<|Za<|Zg<|K6 6 7 9 26 27 28 Y<|Tr<|Rq Y (Zk (ov Y) Y Y ZkN)<|Rq Y (Qe (ov Y) Y Y Y Qq (ZX at9) arL (hns := (nsM fun _ => Y)))<|bE h fun y2 h_y2 h=>Rq Y (Zo (Zew h_y2)<|.cons (ov Y) (.aggB<|arD fun _ => Y) .nil)<|Rl tZ_149 Zdy Y<|R2 ZcN Y<|Za<|K7 6 7 9 26 27 28 36 Y<|If h Y (fun h=>?_) fun h=>?_
    ·
     exact ZE<|K5 6 7 26 27 28 Y<|Zt<|R2 ZM Y<|Rm Y<|Za<|⟨_, h, ES [some 0, some 1] (hhp := .cons Y (ZfE (fk := FK3) (fv := ZeZ) (m := best2) tZ_127 (fun _=>.dat Y) fun _=>.ren<|Zed<|rld Zfj)<|.cons Y (roM D3) .nil)⟩
    ·
     refine Zh<|K6 6 7 9 26 27 28 Y<|Tr<|Rq Y (Zk (ov Y) Y Y ZkN)<|Rq Y (Qe (ov Y) Y Y Y Qq (ZX at9) arL (hns := (nsM fun _ => Y)))<|bE h fun y3 h_y3 h=>Rq Y (Zo (ZdV h_y3)<|.cons (ov Y) (.aggB<|arD fun _ => Y) .nil)<|Rm Y<|Rq Y (Zl (ov Y) Y)<|Rq Y (Zl (ov Y) Y)<|Ra Y<|Ra Y<|Za<|K7 6 7 9 10 26 27 28 Y<|Tr<|Rm Y<|Rm Y<|bE h fun o h_o h=>Rq Y (Zm4 (m := best2) (fk := FK3) (fv := ZeZ) (k := y3.1) (z0 := (api_Kept.mk 0 0 0 0 (Vector.replicate 64 0))) (ov Y) (ov Y) Zil Zms Y (fun _=>.b Y) (ZiF Zl4 Y) (fun _ _=>Y) h_o)<|Rm Y<|Rq Y (Zl (ov Y) Y)<|Rq Y (Zl (ov Y) Y)<|Rx Y (ZN (row := (.int .i64 0) :: (.int .i64 0) :: (.int .i64 0) :: (.int .i64 0) :: ((List.map C40 (Vector.replicate 64 0).toList) ++ ([]))) 3 Y Zme (by kernel_rfl)<|by exact Eq.symm (Eq.trans (b := 68) ZcX tZ_65.symm))<|Rx Y (Zi (ov Y) (ov Y) (Zs ZlJ ZcX) Y Y Y (QL (Zq ZcX) ZcX) (Zb Zl7)<|Qj<|Eq.trans ZcX<|Eq.symm ZcX)<|Ra Y<|Za<|I1 (fun numbers3=>⟨[(6, .mref 0 1), (7, .own 1 numbers3.length), (9, .ptr 2 1 0 0), (10, .int .i64 y3.1), (12, .ptr 3 1 0 0), (13, .bool o.isSome), (26, .sl 65 (List.map R65 y.1)), (27, .int .i64 (y.1.length : Int)), (28, .int .i64 i)], [some ⟨127, [[.mcon (List.map (Zaa FK3 ZeZ) best2)]]⟩, some ⟨3, List.map R3 numbers3⟩, some ⟨65, [(.int .i64 x.Memory) :: (.int .i64 x.Sector) :: (.int .i64 x.Sequence) :: (.int .i64 x.Slot) :: ((List.map C40 x.Frame.toList) ++ ([]))]⟩, some ⟨65, [(.int .i64 ((o.getD (api_Kept.mk 0 0 0 0 (Vector.replicate 64 0))).Memory)) :: (.int .i64 ((o.getD (api_Kept.mk 0 0 0 0 (Vector.replicate 64 0))).Sector)) :: (.int .i64 ((o.getD (api_Kept.mk 0 0 0 0 (Vector.replicate 64 0))).Sequence)) :: (.int .i64 ((o.getD (api_Kept.mk 0 0 0 0 (Vector.replicate 64 0))).Slot)) :: ((List.map C40 ((o.getD (api_Kept.mk 0 0 0 0 (Vector.replicate 64 0))).Frame).toList) ++ ([]))]⟩]⟩) h (fun h=>?_) fun numbers3 h=>?_
     ·
      refine K9 6 7 9 10 12 13 26 27 28 Y<|Tr<|Rm Y<|R1 X2 Y<|Za<|K10 6 7 9 10 12 13 26 27 28 50 Y<|If h Y (fun h=>?_) fun h=>?_
      ·
       exact K9 6 7 9 10 12 13 26 27 28 Y<|Zt<|Rm Y<|Rm Y<|R_q (.sl 3<|List.map R3 ([y3.1] : List Int)) Y (XC Q3 (.cons (cvs (ov Y)<|Zm Y) Y (.cons (.b Y) .nil) .nil) Y Y)<|bE h fun l2 h_l2 h=>Rx Y (Qr (ov Y) (Qv (ov Y) tZ_3) Q3 Y Y Y (fun _=>Zb Y) Y h_l2)<|Ra Y<|Za<|⟨_, h, ES [some 0, some 1, some 2, some 3] (hhp := .cons Y (ZfE (fk := FK3) (fv := ZeZ) (m := best2) tZ_127 (fun _=>.dat Y) fun _=>.ren<|Zed<|rld Zfj)<|.cons Y (roM D3)<|.cons Y (ro1 (by exact Eq.trans (b := 68) ZcX tZ_65.symm)<|rld Zfj)<|.cons Y (ro1 (by exact Eq.trans (b := 68) ZcX tZ_65.symm)<|rld Zfj) .nil)⟩
      ·
       exact Zh<|⟨_, h, ES [some 0, some 1, some 2, some 3] (hhp := .cons Y (ZfE (fk := FK3) (fv := ZeZ) (m := best2) tZ_127 (fun _=>.dat Y) fun _=>.ren<|Zed<|rld Zfj)<|.cons Y (roM D3)<|.cons Y (ro1 (by exact Eq.trans (b := 68) ZcX tZ_65.symm)<|rld Zfj)<|.cons Y (ro1 (by exact Eq.trans (b := 68) ZcX tZ_65.symm)<|rld Zfj) .nil)⟩
     ·
      refine Tr<|Rm Y<|R1 X2 Y<|Rm Y<|Rq Y (.guarded ((!o.isSome) == false) Y Y Y Y fun h => Zk (ov Y) Y Y ZkF)<|Rq Y (.guarded ((!o.isSome) == false) Y Y Y Y fun h => Zu (ow Y h) Y Y Y tS3<|Qi at5)<|Rq Y (.guarded ((!o.isSome) == false) Y Y Y Y fun h => Zk (ov Y) Y Y ZkF)<|Rq Y (.guarded ((!o.isSome) == false) Y Y Y Y fun h => Zu (ow Y h) Y Y Y tS3<|Qi at5)<|Rq Y (.guarded ((!o.isSome) == false) Y Y Y Y fun h => ZcN (ow Y h)<|ow Y h)<|Rq Y (ZdB (ov Y) fun hp=>ow Y<|gF hp)<|Za<|K8 6 7 9 10 26 27 28 63 Y<|If h Y (fun h=>?_) fun h=>?_
      ·
       exact K7 6 7 9 10 26 27 28 Y<|Zt<|Rm Y<|Rm Y<|Rq Y (Qe (ov Y) Y Y Y ZlJ (ZX<|Zq ZcX) ZcX (hns := Zng))<|Rx Y (Zk8 (m := best2) (fk := FK3) (fv := ZeZ) (k := y3.1) (v := x) (ov Y) (ov Y) (ov Y) Zil Zms Y fun _=>.b Y)<|Za<|K5 6 7 26 27 28 Y<|Zt<|R2 ZM Y<|Rm Y<|Za<|⟨_, h, ES [some 0, some 1] (hhp := .cons Y (ZfE (fk := FK3) (fv := ZeZ) (m := (Zi2 kqI best2 y3.1 x)) tZ_127 (fun _=>.dat Y) fun _=>.ren<|Zed<|rld Zfj)<|.cons Y (roM D3) .nil)⟩
      ·
       exact Zh<|K5 6 7 26 27 28 Y<|Zt<|R2 ZM Y<|Rm Y<|Za<|⟨_, h, ES [some 0, some 1] (hhp := .cons Y (ZfE (fk := FK3) (fv := ZeZ) (m := best2) tZ_127 (fun _=>.dat Y) fun _=>.ren<|Zed<|rld Zfj)<|.cons Y (roM D3) .nil)⟩
   ·
    refine ZE<|?_
    replace h := lx h ▸ ho1
    exact ⟨_, h, ES [some 0, some 1] (hhp := .cons Y (ZfE (fk := FK3) (fv := ZeZ) (m := best2) tZ_127 (fun _=>.dat Y) fun _=>.ren<|Zed<|rld Zfj)<|.cons Y (roM D3) .nil)⟩
  ·
   refine Tr<|Rm Y<|bE h fun y4 h_y4 h=>Rx Y (ZF [1] (Zki h_y4) (.cons (ov Y) (.own _ Y) .nil) (.cons Y (roM D3) .nil) Y (.keep Y Y<|.lent 0 (.inl Y) Y (roM D3) .nil) Y Y<|X0<|rld Y)<|Za<|K2 6 7 Y<|Tr<|Ra Y<|Za<|I1 (fun out=>⟨[(14, .own 0 out.length)], [some ⟨42, List.map R42 out⟩]⟩) h (fun h=>?_) fun out h=>?_
   ·
    refine Tr<|Rm Y<|Rq Y (ZeD (ov Y) Y (Zha h_y4) Q3)<|Rm Y<|Za<|Ze<|?_
    obtain ⟨r2, hl2, ho2⟩ := QI h
    refine L2 (fun out2 i2=>⟨[(6, .mref 0 1), (14, .own 1 out2.length), (70, .own 2 y4.length), (71, .int .i64 (y4.length : Int)), (72, .int .i64 i2)], [some ⟨127, [[.mcon (List.map (Zaa FK3 ZeZ) best)]]⟩, some ⟨42, List.map R42 out2⟩, some ⟨3, List.map R3 y4⟩]⟩) hl2 (Ent.sel [some 0, none, some 1] (sr 6 Y (.mref _ Y)<|sr 14 Y (.row Y)<|sr 70 Y (ZfY (Eq.symm<|Zha h_y4) Y)<|sd 71 Y Y<|sd 72 Y Y sn) (.cons Y (ZfE (fk := FK3) (fv := ZeZ) (m := best) tZ_127 (fun _=>.dat Y) fun _=>.ren<|Zed<|rld Zfj)<|.row 42<|.cons Y (roM D3) .nil) Y Y) fun n2 out2 i2 h=>?_
    unfold Zbb at h
    refine Tr<|R2 ZO Y<|Za<|Zg<|If h Y (fun h=>?_) fun h=>?_
    ·
     exact Zh<|Zg<|Ze<|K5 6 14 70 71 72 Y<|Tr<|bE h fun x2 h_x2 h=>Rq Y (XP (ov Y) (ov Y) Q3 Y Y h_x2)<|Rq Y (XQ (ov Y) Y Y h_x2 tS3 Y)<|Ra Y<|Za<|K6 6 14 16 70 71 72 Y<|Zt<|Rm Y<|Rm Y<|Rm Y<|bE h fun o2 h_o2 h=>Rq Y (ZmW (m := best) (fk := FK3) (fv := ZeZ) (k := x2) (z0 := (api_Kept.mk 0 0 0 0 (Vector.replicate 64 0))) (ov Y) (ov Y) Zil Zms Y (fun _=>.b Y) (ZiF Zl4 Y) (fun _ _=>Y) h_o2)<|Rq Y (Zkp (ov Y) Zlv at9)<|R_q (.sl 42<|List.map R42 ([o2.Frame] : List (Vector Int 64))) Y (XC ZlN (.cons (cva<|ov Y) arL (pwD<|arD fun _ => Y) .nil) Y Y)<|bE h fun l3 h_l3 h=>Rx Y (Qr (ov Y) (Qv (ov Y) tZ_42) ZlN Y Y Y (fun x=>Zb<|E42 x) Y h_l3)<|Ra Y<|Za<|K5 6 14 70 71 72 Y<|Zt<|R2 ZM Y<|Rm Y<|Za<|⟨_, h, ES [some 0, some 1, some 2] (hhp := .cons Y (ZfE (fk := FK3) (fv := ZeZ) (m := best) tZ_127 (fun _=>.dat Y) fun _=>.ren<|Zed<|rld Zfj)<|.cons Y (roM D42)<|.cons Y (roM D3) .nil)⟩
    ·
     refine ZE<|?_
     replace h := lx h ▸ ho2
     exact ⟨_, h, ES [some 1]⟩
   ·
    refine Tr<|Rm Y<|Ra Y<|Ra Y<|Za<|?_
    obtain rfl := rt h
    exact Zn (ZC Y (.two (.tmp Y<|View.ownM Y Y D42)<|rb Y))
theorem Ziu  {r : Bool} (h : Zcy  = some r) :
 CSpec Tryz.prog gl0 13 [] (.bool r) := by
 unfold Zcy at h
 replace h := Z0 h
 refine So Tryz.func13 Y fun w0 A=>Tr<|Ra Y<|Za<|K0<|Tr<|bE h fun l h_l h=>Rx Y (Zaj [none] (r := 0) (f := R3) (z0 := 0) Y (ov Y) (ov Y) Q3 Y tZ3 Y Y h_l)<|bE h fun y h_y h=>Rq Y (Zcn (Zi3 h_y) (.tuple<|by simp only [List.mem_cons, List.not_mem_nil, or_false, forall_eq_or_imp, forall_eq]; exact ⟨(ZiX (fun _ => .int)), .int⟩)<|.cons (ov Y) (Dat.view<|.b Y)<|.cons (ov Y) (View.ownM Y Y D3) .nil)<|Rm Y<|Rq Y (Zl (ov Y) Y)<|Rq Y (Zl (ov Y) Y)<|Rx Y (ZN (row := (List.map C40 (Vector.replicate 64 0).toList)) 1 Y Zby Y tZ_42)<|Rx Y (Zi (ov Y) (ov Y) (Zs Qq arL) Y Y Y (QL (Zq arL) arL) (Zb<|arC fun _ => Y)<|Qj<|Eq.trans arL<|Eq.symm arL)<|Ra Y<|Za<|K1 1 Y<|Tr<|bE h fun y2 h_y2 h=>Rq Y (Zo (ZfS h_y2)<|.cons (ov Y) (.b Y)<|.cons (ov Y) (.b Y)<|.cons (ov Y) (.b Y) .nil)<|Rm Y<|Rq Y (Zl (ov Y) Y)<|Rq Y (Zl (ov Y) Y)<|Rx Y (ZN (row := [_, _, _, _, _]) 2 Y Zdk Y tZ_26)<|Rx Y (Zi (ov Y) (ov Y) (Zs Jg Y) Y Y Y (Nat.le_of_ble_eq_true Y) (Zb Y) Y)<|Ra Y<|Za<|Zg<|K3 1 3 4 Y<|Tr<|Rm Y<|R2 Xp Y<|Za<|K3 1 3 20 Y<|If h Y (fun h=>?_) fun h=>?_
 ·
  refine K0<|Tr<|Ra Y<|Za<|?_
  obtain rfl := rt h
  exact Zn (ZC Y (.one<|rb Y))
 ·
  refine Zh<|K2 1 3 Y<|Tr<|Rq Y (Qe (ov Y) Y Y Y Jg Y Y)<|R_q (.sl 26<|List.map R26 ([y2.1] : List api_Memory)) Y (XC ZcF (.cons (cva<|ov Y) Y (pwD Y) .nil) Y Y)<|bE h fun y3 h_y3 h=>?_
  rcases y3 with y3 | y3
  ·
   replace h := ell h
   refine Rx Y (ZF [] (Ze0 h_y3) (.cons (ov Y) (.dat Y)<|.cons (ov Y) (.dat Y) .nil) .nil Y (.keep Y Y<|.keep Y Y<|.keep Y Y .nil) Y Y<|X0<|rlc (.dat Y)<|rlc (.dat Y) rln)<|Rm Y<|Rq Y (Zl (ov Y) Y)<|Rq Y (Zl (ov Y) Y)<|Ra Y<|Ra Y<|Za<|Zg<|K3 1 4 5 Y<|Tr<|Rm Y<|R2 Xp Y<|Za<|K3 1 5 28 Y<|If h Y (fun h=>?_) fun h=>?_
   ·
    refine K0<|Tr<|Ra Y<|Za<|?_
    obtain rfl := rt h
    exact Zn (ZC Y (.one<|rb Y))
   ·
    exact Zh<|(Zi8 h).elim
  ·
   replace h := elr h
   refine Rx Y (ZF [] (ZeT h_y3) (.cons (ov Y) (.dat Y)<|.cons (ov Y) (.dat Y) .nil) .nil Y (.keep Y Y<|.keep Y Y<|.keep Y Y<|.lent 0 (.inr ⟨Nat.le_of_ble_eq_true Y, Y⟩) Y (ro1 (by exact tZ_102.symm)<|rlc (.own _<|.inr ⟨Nat.le_of_ble_eq_true Y, Y⟩)<|rlc (.own _<|.inr ⟨Nat.le_of_ble_eq_true Y, Y⟩)<|rlc (.dat Y)<|rlc (.dat Y)<|rlc (.dat Y)<|rlc (.dat Y)<|rlc (.dat Y) rln)<|.lent 1 (.inr ⟨Nat.le_of_ble_eq_true Y, Y⟩) Y (roO Xo)<|.lent 2 (.inr ⟨Nat.le_of_ble_eq_true Y, Y⟩) Y (roM D105) .nil) Y Y<|X0<|rlc (.ptr _ _ _<|.inr ⟨Nat.le_of_ble_eq_true Y, Y⟩)<|rlc (.dat Y) rln)<|Rm Y<|Rq Y (Zl (ov Y) Y)<|Rq Y (Zl (ov Y) Y)<|Ra Y<|Ra Y<|Za<|Zg<|K3 1 4 5 Y<|QQ [some ⟨3, List.map R3 l⟩, some ⟨42, [(List.map C40 y.1.toList)]⟩, some ⟨26, [[.int .i64 y2.1.Slots, .int .i64 y2.1.Limit, .sl 49 (List.map R49 y2.1.Sectors), .sl 3 (List.map R3 y2.1.Wear), .sl 4 (List.map R4 y2.1.Bad)]]⟩, some ⟨102, [[.own 4 y3.1.bank.memories.length, .own 5 y3.1.bank.spots.length, .int .i64 y3.1.copies, .bool y3.1.frozen, .bool y3.1.stopped, .int .i64 y3.1.last, .bool y3.1.some_]]⟩, some ⟨26, List.map O26 y3.1.bank.memories⟩, some ⟨105, List.map R105 y3.1.bank.spots⟩] Y<|Tr<|Rm Y<|R2 Xp Y<|Za<|K3 1 5 28 Y<|If h Y (fun h=>?_) fun h=>?_
   ·
    refine K0<|Tr<|Ra Y<|Za<|?_
    obtain rfl := rt h
    exact Zn (ZC Y (.one<|rb Y))
   ·
    refine Zh<|K2 1 5 Y<|Tr<|Rm Y<|Rq Y (Qe (ov Y) Y Y Y Qq (ZX<|Zq arL) arL (hns := (nsM fun _ => Y)))<|bE h fun y4 h_y4 h=>Rx Y (ZF [3, 4, 5] (ZcW h_y4) (.cons (ov Y) (.ptr _ _ _ Y)<|.cons (ov Y) (Zed<|rld<|arD fun _ => Y)<|.cons (ov Y) (.dat Y) .nil) (.cons Y (ro1 (by exact tZ_102.symm)<|rlc (.own _ Y)<|rlc (.own _ Y)<|rlc (.dat Y)<|rlc (.dat Y)<|rlc (.dat Y)<|rlc (.dat Y)<|rlc (.dat Y) rln)<|.cons Y (roO Xo)<|.cons Y (roM D105) .nil) Y (.keep Y Y<|.keep Y Y<|.keep Y Y<|.lent 0 (.inl Y) Y (ro1 (by exact tZ_102.symm)<|rlc (.own _<|.inr ⟨Nat.le_of_ble_eq_true Y, Y⟩)<|rlc (.own _<|.inr ⟨Nat.le_of_ble_eq_true Y, Y⟩)<|rlc (.dat Y)<|rlc (.dat Y)<|rlc (.dat Y)<|rlc (.dat Y)<|rlc (.dat Y) rln)<|.none<|.none<|.lent 3 (.inr ⟨Nat.le_of_ble_eq_true Y, Y⟩) Y (roO Xo)<|.lent 4 (.inr ⟨Nat.le_of_ble_eq_true Y, Y⟩) Y (roM D105) .nil) Y Y<|X0<|rld Y)<|Rm Y<|Rq Y (Zl (ov Y) Y)<|Rq Y (Zl (ov Y) Y)<|Rq Y (Zl (ov Y) Y)<|Ra Y<|Ra Y<|Ra Y<|Za<|K5 1 4 5 6 7 Y<|QQ [some ⟨3, List.map R3 l⟩, some ⟨42, [(List.map C40 y.1.toList)]⟩, some ⟨26, [[.int .i64 y2.1.Slots, .int .i64 y2.1.Limit, .sl 49 (List.map R49 y2.1.Sectors), .sl 3 (List.map R3 y2.1.Wear), .sl 4 (List.map R4 y2.1.Bad)]]⟩, some ⟨102, [[.own 6 y4.2.2.2.bank.memories.length, .own 7 y4.2.2.2.bank.spots.length, .int .i64 y4.2.2.2.copies, .bool y4.2.2.2.frozen, .bool y4.2.2.2.stopped, .int .i64 y4.2.2.2.last, .bool y4.2.2.2.some_]]⟩, none, none, some ⟨26, List.map O26 y4.2.2.2.bank.memories⟩, some ⟨105, List.map R105 y4.2.2.2.bank.spots⟩] Y<|Tr<|Rm Y<|bE h fun y5 h_y5 h=>Rx Y (ZF [3, 6, 7] (Zcm h_y5) (.cons (ov Y) (.ptr _ _ _ Y) .nil) (.cons Y (ro1 (by exact tZ_102.symm)<|rlc (.own _ Y)<|rlc (.own _ Y)<|rlc (.dat Y)<|rlc (.dat Y)<|rlc (.dat Y)<|rlc (.dat Y)<|rlc (.dat Y) rln)<|.cons Y (roO Xo)<|.cons Y (roM D105) .nil) Y (.keep Y Y<|.keep Y Y<|.keep Y Y<|.lent 0 (.inl Y) Y (ro1 (by exact tZ_102.symm)<|rlc (.dat Y)<|rlc (.own _<|.inr ⟨Nat.le_of_ble_eq_true Y, Y⟩)<|rlc (.dat Y)<|rlc (.dat Y)<|rlc (.dat Y)<|rlc (.dat Y)<|rlc (.dat Y) rln)<|.none<|.none<|.none<|.none<|.lent 3 (.inr ⟨Nat.le_of_ble_eq_true Y, Y⟩) Y (roM D105) .nil) Y Y<|.dat Y)<|bE h fun y6 h_y6 h=>Rq Y (Zo (Zhw h_y6)<|.cons (ov Y) (.b Y) .nil)<|Rm Y<|Rq Y (Zl (ov Y) Y)<|Rq Y (Zl (ov Y) Y)<|Ra Y<|Ra Y<|Za<|Zg<|K6 1 4 6 7 8 9 Y<|Qp (cw := md0) (by kernel_rfl)<|D1 0 Zc Y<|D2 1 ZaJ Y<|D1 2 Zc Y<|Dq 3 Y (.guarded ((decide (y4.1 = 1)) == true) Y Y Y Y fun h => Zc<|ov Y)<|Dq 4 Y (Zck (ov Y) fun hp=>ow Y<|gT hp)<|D1 5 Zc Y<|Dq 6 Y (.guarded (((decide (y4.1 = 1)) && y4.2.1) == true) Y Y Y Y fun h => Zc<|ov Y)<|Dq 7 Y (.guarded (((decide (y4.1 = 1)) && y4.2.1) == true) Y Y Y Y fun h => ZaJ (ow Y h)<|ov Y)<|Dq 8 Y (Zck (ov Y) fun hp=>ow Y<|gT hp)<|D1 9 Zc Y<|Dq 10 Y (.guarded ((((decide (y4.1 = 1)) && y4.2.1) && (decide (y4.2.2.1 = 0))) == true) Y Y Y Y fun h => Zc<|ov Y)<|Dq 11 Y (.guarded ((((decide (y4.1 = 1)) && y4.2.1) && (decide (y4.2.2.1 = 0))) == true) Y Y Y Y fun h => ZaJ (ow Y h)<|ov Y)<|Dq 12 Y (Zck (ov Y) fun hp=>ow Y<|gT hp)<|D1 13 Zc Y<|Dq 14 Y (.guarded (((((decide (y4.1 = 1)) && y4.2.1) && (decide (y4.2.2.1 = 0))) && (decide (y6.2 = 0))) == true) Y Y Y Y fun h => Zc<|ov Y)<|Dq 15 Y (.guarded (((((decide (y4.1 = 1)) && y4.2.1) && (decide (y4.2.2.1 = 0))) && (decide (y6.2 = 0))) == true) Y Y Y Y fun h => Zjh (Qv (ow Y h) tZ_42) ZlN<|ZfK _ _)<|Dq 16 Y (.guarded (((((decide (y4.1 = 1)) && y4.2.1) && (decide (y4.2.2.1 = 0))) && (decide (y6.2 = 0))) == true) Y Y Y Y fun h => ZaJ (ow Y h)<|ov Y)<|Dq 17 Y (Zck (ov Y) fun hp=>ow Y<|gT hp)<|D1 18 Zc Y<|Dq 19 Y (.guarded ((((((decide (y4.1 = 1)) && y4.2.1) && (decide (y4.2.2.1 = 0))) && (decide (y6.2 = 0))) && (decide ((y6.1.length : Int) = 1))) == true) Y Y Y Y fun h => Zc<|ov Y)<|bE h fun x h_x h=>Dq 20 Y (.guarded ((((((decide (y4.1 = 1)) && y4.2.1) && (decide (y4.2.2.1 = 0))) && (decide (y6.2 = 0))) && (decide ((y6.1.length : Int) = 1))) == true) Y Y Y Y fun h => ZQ (ow Y h) (ov Y) ZlN<|gdT h_x h)<|Dq 21 Y (.guarded ((((((decide (y4.1 = 1)) && y4.2.1) && (decide (y4.2.2.1 = 0))) && (decide (y6.2 = 0))) && (decide ((y6.1.length : Int) = 1))) == true) Y Y Y Y fun h => Xc (ow Y h) Qq (ZX<|Zq arL) arL)<|Dq 22 Y (.guarded ((((((decide (y4.1 = 1)) && y4.2.1) && (decide (y4.2.2.1 = 0))) && (decide (y6.2 = 0))) && (decide ((y6.1.length : Int) = 1))) == true) Y Y Y Y fun h => Qe (ov Y) Y Y Y Qq (ZX<|Zq arL) arL (hns := (nsM fun _ => Y)))<|Dq 23 Y (.guarded ((((((decide (y4.1 = 1)) && y4.2.1) && (decide (y4.2.2.1 = 0))) && (decide (y6.2 = 0))) && (decide ((y6.1.length : Int) = 1))) == true) Y Y Y Y fun h => Zk0 Zl5 (ow Y h) (ow Y h) (.aggB<|arD fun _ => Y) (.aggB<|arD fun _ => Y) (fkV fun _ => Y) (fkV fun _ => Y)<|eqV fun _ _ => Y)<|Dq 24 Y (Zck (ov Y) fun hp=>ow Y<|gT hp)<|D1 25 Z8 Y<|Dd<|?_
    obtain rfl := rt h
    exact Zn (ZC Y (.one<|rb Y))
theorem ZhD {sequence : Int} {r : (List Int)} (h : ZbZ sequence = some r) :
 CSpec Tryz.prog gl0 88 [.int .i64 sequence] (.sl 5 (List.map R5 r)) := by
 unfold ZbZ at h
 replace h := Z0 h
 refine So Tryz.func88 Y fun w0 A=>Tr<|Ra Y<|Za<|K1 0 Y<|Tr<|Rx Y (ZhL (r := 0) (xs := ([79, 66] : List Int)) (f := R5) Y Z5 (.cons (cvs (ov Y)<|Zm Y) Y (.cons (.b Y) .nil)<|.cons (cvs (ov Y)<|Zm Y) Y (.cons (.b Y) .nil) .nil) Y Y Y)<|Ra Y<|Za<|I1 (fun out=>⟨[(3, .own 0 out.length)], [some ⟨5, List.map R5 out⟩]⟩) h (fun h=>?_) fun out h=>?_
 ·
  refine K2 0 3 Y<|Tr<|Rm Y<|Rq Y (Z7 (ov Y) tI3 Zku Y)<|Rm Y<|Rq Y (Z7 (ov Y) tI3 Zku Y)<|R1 Ziz Y<|R_q (.sl 169<|List.map Zlz ([(u32 sequence), (Zat .u32 4294967295 (u32 sequence))] : List Int)) Y (XC Zle (.cons (cvs (ov Y)<|Zm Y) Y (.cons (.b Y) .nil)<|.cons (cvs (ov Y)<|Zm Y) Y (.cons (.b Y) .nil) .nil) Y Y)<|Rl tZ_169 Zle Y<|Rm Y<|Za<|Ze<|?_
  obtain ⟨r1, hl1, ho1⟩ := QI h
  refine L2 (fun out2 i=>⟨[(3, .own 0 out2.length), (13, .sl 169 (List.map Zlz ([(u32 sequence), (Zat .u32 4294967295 (u32 sequence))] : List Int))), (14, .int .i64 (([(u32 sequence), (Zat .u32 4294967295 (u32 sequence))] : List Int).length : Int)), (15, .int .i64 i)], [some ⟨5, List.map R5 out2⟩]⟩) hl1 (ES [some 0]) fun n1 out2 i h=>?_
  unfold Xe at h
  refine Tr<|R2 ZO Y<|Za<|Zg<|If h Y (fun h=>?_) fun h=>?_
  ·
   refine Zh<|I1 (fun out3=>⟨[(3, .own 0 out3.length), (13, .sl 169 (List.map Zlz ([(u32 sequence), (Zat .u32 4294967295 (u32 sequence))] : List Int))), (14, .int .i64 (([(u32 sequence), (Zat .u32 4294967295 (u32 sequence))] : List Int).length : Int)), (15, .int .i64 i)], [some ⟨5, List.map R5 out3⟩]⟩) h (fun h=>?_) fun out3 h=>?_
   ·
    refine Ze<|K4 3 13 14 15 Y<|Tr<|bE h fun x h_x h=>Rq Y (ZQ (ov Y) (ov Y) Zle h_x)<|Rq Y (Zd (ov Y) ZmQ Y)<|Ra Y<|Za<|K5 3 5 13 14 15 Y<|Tr<|Ra Y<|Za<|Ze<|?_
    obtain ⟨r2, hl2, ho2⟩ := QI h
    refine L2 (fun out4 k=>⟨[(3, .own 0 out4.length), (5, .int .u32 x), (6, .int .i64 k), (13, .sl 169 (List.map Zlz ([(u32 sequence), (Zat .u32 4294967295 (u32 sequence))] : List Int))), (14, .int .i64 (([(u32 sequence), (Zat .u32 4294967295 (u32 sequence))] : List Int).length : Int)), (15, .int .i64 i)], [some ⟨5, List.map R5 out4⟩]⟩) hl2 (ES [some 0]) fun n2 out4 k h=>?_
    unfold Xh at h
    refine Zg<|Tr<|Rm Y<|R2 ZfW Y<|Za<|K7 3 5 6 13 14 15 20 Y<|If h Y (fun h=>?_) fun h=>?_
    ·
     exact Zh<|Zg<|Ze<|K6 3 5 6 13 14 15 Y<|Zt<|Rm Y<|Rm Y<|Rm Y<|bE h fun q h_q h=>Rq Y (ZbB (ov Y) (ov Y) h_q)<|Rq Y (Z7 (ov Y) Zku tI5 Y)<|R_q (.sl 5<|List.map R5 ([(u8 q)] : List Int)) Y (XC Z5 (.cons (cvs (ov Y)<|Zm Y) Y (.cons (.b Y) .nil) .nil) Y Y)<|bE h fun l h_l h=>Rx Y (Qr (ov Y) (Qv (ov Y) tZ_5) Z5 Y Y Y (fun _=>Zb Y) Y h_l)<|Ra Y<|Za<|K6 3 5 6 13 14 15 Y<|Zt<|Rm Y<|R2 ZeV Y<|Ra Y<|Za<|⟨_, h, ES [some 0]⟩
    ·
     refine ZE<|?_
     replace h := lx h ▸ ho2
     exact ⟨_, h, ES [some 0]⟩
   ·
    exact Zt<|R2 ZM Y<|Rm Y<|Za<|⟨_, h, ES [some 0]⟩
  ·
   refine ZE<|?_
   replace h := lx h ▸ ho1
   exact ⟨_, h, ES [some 0]⟩
 ·
  refine Tr<|Rm Y<|Ra Y<|Za<|?_
  obtain rfl := rt h
  exact Zn (ZC Y (.one<|.tmp Y<|View.ownM Y Y D5))
theorem Zii {s : List Int} {r : Int × Bool × Bool} (h : Zdz s = some r) :
 CSpec Tryz.prog gl0 35 [.sl 5 (List.map R5 s)] (.tuple [.int .i64 r.1, .bool r.2.1, .bool r.2.2]) := by
 unfold Zdz at h
 replace h := Z0 h
 refine So Tryz.func35 Y fun w0 A=>Tr<|Ra Y<|Ra Y<|Ra Y<|Za<|Zg<|K2 0 2 Y<|Tr<|Rm Y<|Rl tZ_5 Z5 Y<|R2 ZO Y<|Za<|K3 0 2 8 Y<|If h Y (fun h=>?_) fun h=>?_
 ·
  refine K1 2 Y<|Tr<|Ra Y<|Ra Y<|Ra Y<|Za<|?_
  obtain rfl := rt h
  exact Zn (ZC Y (.three (rb Y) (rb Y)<|rb Y))
 ·
  refine Zh<|I1 (fun sequence=>⟨[(0, .sl 5 (List.map R5 s)), (2, .int .i64 sequence)], []⟩) h (fun h=>?_) fun sequence h=>?_
  ·
   refine K2 0 2 Y<|Tr<|Ra Y<|Za<|Ze<|?_
   obtain ⟨r1, hl1, ho1⟩ := QI h
   refine L2 (fun sequence2 k=>⟨[(0, .sl 5 (List.map R5 s)), (2, .int .i64 sequence2), (5, .int .i64 k)], []⟩) hl1 (ES []) fun n1 sequence2 k h=>?_
   unfold X4 at h
   refine Zg<|Tr<|Rm Y<|R2 ZO Y<|Za<|K4 0 2 5 10 Y<|If h Y (fun h=>?_) fun h=>?_
   ·
    exact Zh<|Zg<|Ze<|K3 0 2 5 Y<|Zt<|Rm Y<|R2 Zea Y<|Rm Y<|Rm Y<|bE h fun x h_x h=>Rq Y (ZQ (ov Y) (ov Y) Z5 h_x)<|Rq Y (Zd (ov Y) tS5 Y)<|Rq Y (Z7 (ov Y) tI5 tI3 Y)<|R2 ZM Y<|Ra Y<|Za<|K3 0 2 5 Y<|Zt<|Rm Y<|R2 ZM Y<|Ra Y<|Za<|⟨_, h, ES []⟩
   ·
    refine ZE<|?_
    replace h := lx h ▸ ho1
    exact ⟨_, h, ES []⟩
  ·
   refine Zg<|Zg<|Qp (cw := md0) (by kernel_rfl)<|D1 0 Zc Y<|bE h fun y h_y h=>Dq 1 Y (Zo (Zd4 h_y)<|.cons (ov Y) (.b Y)<|.cons (ov Y) (.b Y)<|.cons (ov Y) (.b Y) .nil)<|D1 2 Zc Y<|Dq 3 Y (.guarded (y == false) Y Y Y Y fun h => Zc<|ov Y)<|bE h fun y2 h_y2 h=>Dq 4 Y (.guarded (y == false) Y Y Y Y fun h => Zo (ZhD<|gdT h_y2 h)<|.cons (ow Y h) (.b Y) .nil)<|Dq 5 Y (.guarded (y == false) Y Y Y Y fun h => ZjI (f := R5) (Qv (ow Y h) tZ_5) (fun _=>Y) Z5 ZjW ZmZ)<|Dq 6 Y (.guarded (y == false) Y Y Y Y fun h => Zc<|ov Y)<|bE h fun l h_l h=>Dq 7 Y (.guarded (y == false) Y Y Y Y fun h => Zeg (ow Y h) Z5 on (oi<|ov Y)<|gdT h_l h)<|Dq 8 Y (.guarded (y == false) Y Y Y Y fun h => ZjI (f := R5) (Qv (ow Y h) tZ_5) (fun _=>Y) Z5 ZjW ZmZ)<|Dq 9 Y (.guarded (y == false) Y Y Y Y fun h => Zlf (ow Y h)<|ow Y h)<|Dq 10 Y (ZdB (ov Y) fun hp=>ow Y<|gF hp)<|Dd<|K3 0 2 31 Y<|If h Y (fun h=>?_) fun h=>?_
   ·
    refine K1 2 Y<|Tr<|Ra Y<|Ra Y<|Ra Y<|Za<|?_
    obtain rfl := rt h
    exact Zn (ZC Y (.three (rb Y) (rb Y)<|rb Y))
   ·
    refine Zh<|Zg<|K2 0 2 Y<|Qp (cw := md0) (by kernel_rfl)<|D1 0 Zc Y<|D1 1 Zc Y<|bE h fun x2 h_x2 h=>Dq 2 Y (ZQ (ov Y) (ov Y) Z5 h_x2)<|Dq 3 Y (Zd (ov Y) tS5 Y)<|D2 4 Xp Y<|D1 5 Z8 Y<|D1 6 Z8 Y<|D1 7 Z8 Y<|Dd<|?_
    obtain rfl := rt h
    exact Zn (ZC Y (.three (rb Y) (rb Y)<|rb Y))
theorem ZdX {s : List Int} {r : Int × Bool} (h : JP s = some r) :
 CSpec Tryz.prog gl0 89 [.sl 5 (List.map R5 s)] (.tuple [.int .i64 r.1, .bool r.2]) := by
 unfold JP at h
 replace h := Z0 h
 refine So Tryz.func89 Y fun w0 A=>Tr<|Ra Y<|Ra Y<|Za<|K1 0 Y<|Tr<|Rm Y<|Rl tZ_5 Z5 Y<|R2 ZeV Y<|Ra Y<|Za<|K1 4 Y<|Tr<|Rm Y<|bE h fun q h_q h=>Rq Y (Zcc (ov Y) (ov Y) h_q)<|Rm Y<|R2 ZfW Y<|Rm Y<|Rq Y (.guarded ((decide (97 ≤ (i64 ((s.length : Int) - 16)))) == true) Y Y Y Y fun h => Zc<|ov Y)<|bE h fun q2 h_q2 h=>Rq Y (.guarded ((decide (97 ≤ (i64 ((s.length : Int) - 16)))) == true) Y Y Y Y fun h => XY (ow Y h) (ov Y)<|gdT h_q2 h)<|Rq Y (.guarded ((decide (97 ≤ (i64 ((s.length : Int) - 16)))) == true) Y Y Y Y fun h => ZaJ (ow Y h)<|ov Y)<|Rq Y (Zck (ov Y) fun hp=>ow Y<|gT hp)<|Ra Y<|Ra Y<|Za<|?_
 obtain rfl := rt h
 exact Zn (ZC Y (.two (rb Y)<|rb Y))
theorem Zhf {s : List Int} {r : (List Int) × Int} (h : ZbQ s = some r) :
 CSpec Tryz.prog gl0 36 [.sl 5 (List.map R5 s)] (.tuple [.sl 3 (List.map R3 r.1), .int .i64 r.2]) := by
 unfold ZbQ at h
 replace h := Z0 h
 refine So Tryz.func36 Y fun w0 A=>Tr<|Ra Y<|Ra Y<|Za<|K1 0 Y<|Tr<|Rm Y<|bE h fun y h_y h=>Rq Y (Zo (ZdX h_y)<|.cons (ov Y) (.b Y) .nil)<|Rm Y<|Rq Y (Zl (ov Y) Y)<|Rq Y (Zl (ov Y) Y)<|Ra Y<|Ra Y<|Za<|Zg<|K3 0 4 5 Y<|Tr<|Rm Y<|R1 X2 Y<|Za<|K3 0 4 14 Y<|If h Y (fun h=>?_) fun h=>?_
 ·
  refine K0<|Tr<|Ra Y<|Ra Y<|Za<|?_
  obtain rfl := rt h
  exact Zn (ZC Y (.two (.tmp Y<|View.nils 3)<|rb Y))
 ·
  refine Zh<|K2 0 4 Y<|Tr<|Ra Y<|Za<|I1 (fun out=>⟨[(6, .own 0 out.length)], [some ⟨3, List.map R3 out⟩]⟩) h (fun h=>?_) fun out h=>?_
  ·
   refine Tr<|Rm Y<|Rm Y<|Za<|Ze<|?_
   obtain ⟨r1, hl1, ho1⟩ := QI h
   refine L2 (fun out2 i=>⟨[(0, .sl 5 (List.map R5 s)), (6, .own 0 out2.length), (15, .int .i64 y.1), (16, .int .i64 i)], [some ⟨3, List.map R3 out2⟩]⟩) hl1 (ES [none]) fun n1 out2 i h=>?_
   unfold Jv at h
   refine Tr<|R2 ZO Y<|Za<|Zg<|If h Y (fun h=>?_) fun h=>?_
   ·
    exact Zh<|Zg<|Ze<|K4 0 6 15 16 Y<|Tr<|Rm Y<|Ra Y<|Za<|K5 0 6 7 15 16 Y<|Zt<|Rm Y<|Rm Y<|Rm Y<|bE h fun y2 h_y2 h=>Rq Y (Zo (Za1 h_y2)<|.cons (ov Y) (.b Y)<|.cons (ov Y) (.b Y) .nil)<|bE h fun y3 h_y3 h=>Rq Y (Zo (Zb9 h_y3)<|.cons (ov Y) (.b Y) .nil)<|R_q (.sl 3<|List.map R3 ([y3] : List Int)) Y (XC Q3 (.cons (cvs (ov Y)<|Zm Y) Y (.cons (.b Y) .nil) .nil) Y Y)<|bE h fun l h_l h=>Rx Y (Qr (ov Y) (Qv (ov Y) tZ_3) Q3 Y Y Y (fun _=>Zb Y) Y h_l)<|Ra Y<|Za<|K4 0 6 15 16 Y<|Zt<|R2 ZM Y<|Rm Y<|Za<|⟨_, h, ES [some 0]⟩
   ·
    refine ZE<|?_
    replace h := lx h ▸ ho1
    exact ⟨_, h, ES [some 0]⟩
  ·
   refine Tr<|Rm Y<|Ra Y<|Ra Y<|Za<|?_
   obtain rfl := rt h
   exact Zn (ZC Y (.two (.tmp Y<|View.ownM Y Y D3)<|rb Y))
theorem Ze4 {s : List Int} {r : Int} (h : Zbp s = some r) :
 CSpec Tryz.prog gl0 90 [.sl 5 (List.map R5 s)] (.int .i64 r) := by
 unfold Zbp at h
 replace h := Z0 h
 refine So Tryz.func90 Y fun w0 A=>Tr<|Ra Y<|Za<|K1 0 Y<|Tr<|Rm Y<|Rl tZ_5 Z5 Y<|R2 ZeV Y<|Ra Y<|Za<|Zg<|K1 3 Y<|Tr<|Rm Y<|R2 Zhx Y<|Rm Y<|Rq Y (.guarded ((decide ((i64 ((s.length : Int) - 16)) ≤ 0)) == false) Y Y Y Y fun h => Zc<|ov Y)<|bE h fun q h_q h=>Rq Y (.guarded ((decide ((i64 ((s.length : Int) - 16)) ≤ 0)) == false) Y Y Y Y fun h => XY (ow Y h) (ov Y)<|gdT h_q h)<|Rq Y (.guarded ((decide ((i64 ((s.length : Int) - 16)) ≤ 0)) == false) Y Y Y Y fun h => Xp (ow Y h)<|ov Y)<|Rq Y (ZdB (ov Y) fun hp=>ow Y<|gF hp)<|Za<|K2 3 13 Y<|If h Y (fun h=>?_) fun h=>?_
 ·
  refine K0<|Tr<|Ra Y<|Za<|?_
  obtain rfl := rt h
  exact Zn (ZC Y (.one<|rb Y))
 ·
  refine Zh<|K1 3 Y<|Tr<|Rm Y<|bE h fun q2 h_q2 h=>Rq Y (Zcc (ov Y) (ov Y) h_q2)<|Ra Y<|Za<|?_
  obtain rfl := rt h
  exact Zn (ZC Y (.one<|rb Y))
theorem ZfV {s : List Int} {i : Int} {r : (List Int)} (h : Zcv s i = some r) :
 CSpec Tryz.prog gl0 92 [.sl 5 (List.map R5 s), .int .i64 i] (.sl 5 (List.map R5 r)) := by
 unfold Zcv at h
 replace h := Z0 h
 refine So Tryz.func92 Y fun w0 A=>Tr<|Ra Y<|Za<|Tr<|Rm Y<|Rm Y<|R2 Zea Y<|R2 ZM Y<|Rm Y<|R2 ZM Y<|R2 Zea Y<|R2 ZM Y<|bE h fun l h_l h=>Rq Y (Zeg (ov Y) Z5 (oi<|ov Y) (oi<|ov Y) h_l)<|Ra Y<|Za<|?_
 obtain rfl := rt h
 exact Zn (ZC Y (.one<|rb Y))
theorem ZhU {s : List Int} {i : Int} {r : Int} (h : ZcM s i = some r) :
 CSpec Tryz.prog gl0 82 [.sl 5 (List.map R5 s), .int .i64 i] (.int .i64 r) := by
 unfold ZcM at h
 replace h := Z0 h
 refine So Tryz.func82 Y fun w0 A=>Tr<|Ra Y<|Za<|K2 0 1 Y<|Tr<|Rm Y<|Rm Y<|bE h fun y h_y h=>Rq Y (Zo (ZfV h_y)<|.cons (ov Y) (.b Y)<|.cons (ov Y) (.b Y) .nil)<|Ra Y<|Za<|Zg<|K1 5 Y<|Tr<|Rm Y<|bE h fun x h_x h=>Rq Y (ZQ (ov Y) (ov Y) Z5 h_x)<|Rq Y (Zd (ov Y) tS5 Y)<|R2 ZaJ Y<|Za<|K2 5 14 Y<|If h Y (fun h=>?_) fun h=>?_
 ·
  refine K0<|Tr<|Ra Y<|Za<|?_
  obtain rfl := rt h
  exact Zn (ZC Y (.one<|rb Y))
 ·
  refine Zh<|J0 (fun j => (.inr j)) ⟨[], []⟩ h (fun h=>?_) fun h=>?_
  ·
   refine K1 5 Y<|Tr<|Rm Y<|Rl tZ_5 Z5 Y<|Rm Y<|Za<|Ze<|?_
   obtain ⟨r1, hl1, ho1⟩ := QI h
   refine L1 (fun i2=>⟨[(15, .sl 5 (List.map R5 y)), (16, .int .i64 (y.length : Int)), (17, .int .i64 i2)], []⟩) hl1 (ES []) fun n1 i2 h=>?_
   unfold Zag at h
   refine Tr<|R2 ZO Y<|Za<|Zg<|If h Y (fun h=>?_) fun h=>?_
   ·
    refine Zh<|Zg<|Ze<|K3 15 16 17 Y<|Tr<|bE h fun x2 h_x2 h=>Rq Y (ZQ (ov Y) (ov Y) Z5 h_x2)<|Rq Y (Zd (ov Y) tS5 Y)<|Ra Y<|Za<|K4 7 15 16 17 Y<|Tr<|Rm Y<|R2 Xp Y<|Za<|K4 15 16 17 22 Y<|If h Y (fun h=>?_) fun h=>?_
    ·
     refine K0<|Tr<|Ra Y<|Za<|?_
     replace h := lx h ▸ ho1
     obtain rfl := rt h
     exact Zn (ZC Y (.one<|rb Y))
    ·
     exact Zh<|K3 15 16 17 Y<|Zt<|R2 ZM Y<|Rm Y<|Za<|⟨_, h, ES []⟩
   ·
    refine ZE<|?_
    replace h := lx h ▸ ho1
    exact ⟨(), h, ES []⟩
  ·
   replace h := elr h
   replace h := t0i h
   refine Tr<|Ra Y<|Za<|?_
   obtain rfl := rt h
   exact Zn (ZC Y (.one<|rb Y))
theorem Zhb {s : List Int} {r : (List Int) × Int} (h : ZbS s = some r) :
 CSpec Tryz.prog gl0 37 [.sl 5 (List.map R5 s)] (.tuple [.sl 3 (List.map R3 r.1), .int .i64 r.2]) := by
 unfold ZbS at h
 replace h := Z0 h
 refine So Tryz.func37 Y fun w0 A=>Tr<|Ra Y<|Ra Y<|Za<|K1 0 Y<|Tr<|Rm Y<|bE h fun y h_y h=>Rq Y (Zo (Ze4 h_y)<|.cons (ov Y) (.b Y) .nil)<|Ra Y<|Za<|Zg<|K2 0 4 Y<|Tr<|Rm Y<|R2 ZO Y<|Za<|K3 0 4 10 Y<|If h Y (fun h=>?_) fun h=>?_
 ·
  refine K0<|Tr<|Ra Y<|Ra Y<|Za<|?_
  obtain rfl := rt h
  exact Zn (ZC Y (.two (.tmp Y<|View.nils 3)<|rb Y))
 ·
  refine Zh<|K2 0 4 Y<|Tr<|Ra Y<|Za<|I1 (fun out=>⟨[(5, .own 0 out.length)], [some ⟨3, List.map R3 out⟩]⟩) h (fun h=>?_) fun out h=>?_
  ·
   refine Tr<|Rm Y<|Rm Y<|Za<|Ze<|?_
   obtain ⟨r1, hl1, ho1⟩ := QI h
   refine L2 (fun out2 i=>⟨[(0, .sl 5 (List.map R5 s)), (5, .own 0 out2.length), (11, .int .i64 y), (12, .int .i64 i)], [some ⟨3, List.map R3 out2⟩]⟩) hl1 (ES [none]) fun n1 out2 i h=>?_
   unfold Jw at h
   refine Tr<|R2 ZO Y<|Za<|Zg<|If h Y (fun h=>?_) fun h=>?_
   ·
    exact Zh<|Zg<|Ze<|K4 0 5 11 12 Y<|Tr<|Rm Y<|Ra Y<|Za<|K5 0 5 6 11 12 Y<|Zt<|Rm Y<|Rm Y<|Rm Y<|bE h fun y2 h_y2 h=>Rq Y (Zo (ZhU h_y2)<|.cons (ov Y) (.b Y)<|.cons (ov Y) (.b Y) .nil)<|R_q (.sl 3<|List.map R3 ([y2] : List Int)) Y (XC Q3 (.cons (cvs (ov Y)<|Zm Y) Y (.cons (.b Y) .nil) .nil) Y Y)<|bE h fun l h_l h=>Rx Y (Qr (ov Y) (Qv (ov Y) tZ_3) Q3 Y Y Y (fun _=>Zb Y) Y h_l)<|Ra Y<|Za<|K4 0 5 11 12 Y<|Zt<|R2 ZM Y<|Rm Y<|Za<|⟨_, h, ES [some 0]⟩
   ·
    refine ZE<|?_
    replace h := lx h ▸ ho1
    exact ⟨_, h, ES [some 0]⟩
  ·
   refine Tr<|Rm Y<|Ra Y<|Ra Y<|Za<|?_
   obtain rfl := rt h
   exact Zn (ZC Y (.two (.tmp Y<|View.ownM Y Y D3)<|rb Y))
theorem Zfu {s : List Int} {i : Int} {r : (Vector Int 64) × Int} (h : Jz s i = some r) :
 CSpec Tryz.prog gl0 39 [.sl 5 (List.map R5 s), .int .i64 i] (.tuple [.agg (List.map C40 r.1.toList), .int .i64 r.2]) := by
 unfold Jz at h
 replace h := Z0 h
 refine So Tryz.func39 Y fun w0 A=>Tr<|Rx Y (ZN (row := (List.map C40 (Vector.replicate 64 0).toList)) 0 Y Zby Y tZ_42)<|Ra Y<|Za<|K3 0 1 4 Y<|Tr<|Rm Y<|bE h fun y h_y h=>Rq Y (Zo (ZdX h_y)<|.cons (ov Y) (.b Y) .nil)<|Rm Y<|Rq Y (Zl (ov Y) Y)<|Rq Y (Zl (ov Y) Y)<|Ra Y<|Ra Y<|Za<|Zg<|Ze<|K5 0 1 4 6 7 Y<|Tr<|Rm Y<|R1 X2 Y<|Ra Y<|Za<|K5 0 1 4 6 13 Y<|If h Y (fun h=>?_) fun h=>?_
 ·
  refine K1 4 Y<|Tr<|R_q (.agg<|List.map C40 (#v[0, 0, 0, 0, 0, 0, 0, 0, 0, 0, 0, 0, 0, 0, 0, 0, 0, 0, 0, 0, 0, 0, 0, 0, 0, 0, 0, 0, 0, 0, 0, 0, 0, 0, 0, 0, 0, 0, 0, 0, 0, 0, 0, 0, 0, 0, 0, 0, 0, 0, 0, 0, 0, 0, 0, 0, 0, 0, 0, 0, 0, 0, 0, 0] : Vector Int 64).toList) Y (Jj (ys := [_, _, _, _, _, _, _, _, _, _, _, _, _, _, _, _, _, _, _, _, _, _, _, _, _, _, _, _, _, _, _, _, _, _, _, _, _, _, _, _, _, _, _, _, _, _, _, _, _, _, _, _, _, _, _, _, _, _, _, _, _, _, _, _]) XT Zby .nil Y)<|Rx Y (Zi (ov Y) (ov Y) (Zs Qq arL) Y Y Y (QL (Zq arL) arL) (Zb<|arC fun _ => Y)<|Qj<|Eq.trans arL<|Eq.symm arL)<|Ra Y<|Za<|?_
  obtain rfl := rt h
  exact Zn (ZC Y (.two (.agg Y Y Y Y Qq (ZX<|Zq arL) arL (pwB<|arD fun _ => Y) (hns := (nsM fun _ => Y)))<|rb Y))
 ·
  refine K4 0 1 4 6 Y<|Tr<|Rm Y<|Rm Y<|R2 ZeV Y<|bE h fun y2 h_y2 h=>Rq Y (Zo (Z9 h_y2)<|.cons (ov Y) (.b Y)<|.cons (ov Y) (.b Y)<|.cons (ov Y) (.b Y) .nil)<|R1 X2 Y<|Ra Y<|Za<|K4 0 1 4 17 Y<|If h Y (fun h=>?_) fun h=>?_
  ·
   refine K1 4 Y<|Tr<|R_q (.agg<|List.map C40 (#v[0, 0, 0, 0, 0, 0, 0, 0, 0, 0, 0, 0, 0, 0, 0, 0, 0, 0, 0, 0, 0, 0, 0, 0, 0, 0, 0, 0, 0, 0, 0, 0, 0, 0, 0, 0, 0, 0, 0, 0, 0, 0, 0, 0, 0, 0, 0, 0, 0, 0, 0, 0, 0, 0, 0, 0, 0, 0, 0, 0, 0, 0, 0, 0] : Vector Int 64).toList) Y (Jj (ys := [_, _, _, _, _, _, _, _, _, _, _, _, _, _, _, _, _, _, _, _, _, _, _, _, _, _, _, _, _, _, _, _, _, _, _, _, _, _, _, _, _, _, _, _, _, _, _, _, _, _, _, _, _, _, _, _, _, _, _, _, _, _, _, _]) XT Zby .nil Y)<|Rx Y (Zi (ov Y) (ov Y) (Zs Qq arL) Y Y Y (QL (Zq arL) arL) (Zb<|arC fun _ => Y)<|Qj<|Eq.trans arL<|Eq.symm arL)<|Ra Y<|Za<|?_
   obtain rfl := rt h
   exact Zn (ZC Y (.two (.agg Y Y Y Y Qq (ZX<|Zq arL) arL (pwB<|arD fun _ => Y) (hns := (nsM fun _ => Y)))<|rb Y))
  ·
   refine Zh<|K3 0 1 4 Y<|Tr<|Rm Y<|Rm Y<|bE h fun y3 h_y3 h=>Rq Y (Zo (Za1 h_y3)<|.cons (ov Y) (.b Y)<|.cons (ov Y) (.b Y) .nil)<|R1 Zy Y<|bE h fun l h_l h=>Rq Y (Zjc (f := C5) (ov Y) Zi5 tZ_5 (Zq arL) Y on on h_l)<|bE h fun y4 h_y4 h=>Rq Y (Zo (ZcH h_y4)<|.cons (ov Y) (.b Y) .nil)<|Rq Y (Zl (ov Y) Y)<|Rq Y (Zl (ov Y) Y)<|Rx Y (Zi (ov Y) (ov Y) (Zs Qq arL) Y Y Y (QL (Zq arL) arL) (Zb<|arC fun _ => Y)<|Qj<|Eq.trans arL<|Eq.symm arL)<|Ra Y<|Za<|?_
   obtain rfl := rt h
   exact Zn (ZC Y (.two (.agg Y Y Y Y Qq (ZX<|Zq arL) arL (pwB<|arD fun _ => Y) (hns := (nsM fun _ => Y)))<|rb Y))
theorem ZhX {b : List Int} {r : (Vector Int 64)} (h : ZcJ b = some r) :
 CSpec Tryz.prog gl0 124 [.sl 5 (List.map R5 b)] (.agg (List.map C40 r.toList)) := by
 unfold ZcJ at h
 replace h := Z0 h
 refine So Tryz.func124 Y fun w0 A=>Tr<|Rx Y (ZN (row := (List.map C40 (Vector.replicate 64 0).toList)) 0 Y Zby Y tZ_42)<|Za<|Tr<|R_q (.agg<|List.map C40 (#v[0, 0, 0, 0, 0, 0, 0, 0, 0, 0, 0, 0, 0, 0, 0, 0, 0, 0, 0, 0, 0, 0, 0, 0, 0, 0, 0, 0, 0, 0, 0, 0, 0, 0, 0, 0, 0, 0, 0, 0, 0, 0, 0, 0, 0, 0, 0, 0, 0, 0, 0, 0, 0, 0, 0, 0, 0, 0, 0, 0, 0, 0, 0, 0] : Vector Int 64).toList) Y (Jj (ys := [_, _, _, _, _, _, _, _, _, _, _, _, _, _, _, _, _, _, _, _, _, _, _, _, _, _, _, _, _, _, _, _, _, _, _, _, _, _, _, _, _, _, _, _, _, _, _, _, _, _, _, _, _, _, _, _, _, _, _, _, _, _, _, _]) XT Zby .nil Y)<|Rx Y (ZN (row := (List.map C40 (Vector.replicate 64 0).toList)) 1 Y Zby Y tZ_42)<|Rx Y (Zi (ov Y) (ov Y) (Zs Qq arL) Y Y Y (QL (Zq arL) arL) (Zb<|arC fun _ => Y)<|Qj<|Eq.trans arL<|Eq.symm arL)<|Za<|I1 (fun f=>⟨[(2, .ptr 0 1 0 0), (3, .ptr 1 1 0 0)], [some ⟨42, [(List.map C40 (Vector.replicate 64 0).toList)]⟩, some ⟨42, [(List.map C40 f.toList)]⟩]⟩) h (fun h=>?_) fun f h=>?_
 ·
  refine K3 0 2 3 Y<|Tr<|Rm Y<|Za<|Ze<|?_
  obtain ⟨r1, hl1, ho1⟩ := QI h
  refine L2 (fun f2 i=>⟨[(0, .sl 5 (List.map R5 b)), (2, .ptr 0 1 0 0), (3, .ptr 1 1 0 0), (9, .int .i64 i)], [some ⟨42, [(List.map C40 (Vector.replicate 64 0).toList)]⟩, some ⟨42, [(List.map C40 f2.toList)]⟩]⟩) hl1 (ES [some 0, some 1]) fun n1 f2 i h=>?_
  unfold J9 at h
  refine Tr<|R2 ZO Y<|Za<|Zg<|If h Y (fun h=>?_) fun h=>?_
  ·
   refine Zh<|I1 (fun f3=>⟨[(0, .sl 5 (List.map R5 b)), (2, .ptr 0 1 0 0), (3, .ptr 1 1 0 0), (9, .int .i64 i)], [some ⟨42, [(List.map C40 (Vector.replicate 64 0).toList)]⟩, some ⟨42, [(List.map C40 f3.toList)]⟩]⟩) h (fun h=>?_) fun f3 h=>?_
   ·
    refine Ze<|K4 0 2 3 9 Y<|Tr<|Rm Y<|Ra Y<|Za<|K5 0 2 3 4 9 Y<|Tr<|Rm Y<|Za<|Ze<|?_
    obtain ⟨r2, hl2, ho2⟩ := QI h
    refine L2 (fun f4 i2=>⟨[(0, .sl 5 (List.map R5 b)), (2, .ptr 0 1 0 0), (3, .ptr 1 1 0 0), (4, .int .i64 i), (9, .int .i64 i), (12, .int .i64 i2)], [some ⟨42, [(List.map C40 (Vector.replicate 64 0).toList)]⟩, some ⟨42, [(List.map C40 f4.toList)]⟩]⟩) hl2 (ES [some 0, some 1]) fun n2 f4 i2 h=>?_
    unfold XH at h
    refine Tr<|R2 ZO Y<|Za<|Zg<|If h Y (fun h=>?_) fun h=>?_
    ·
     refine Zh<|Zg<|Ze<|K6 0 2 3 4 9 12 Y<|Tr<|Rm Y<|Ra Y<|Za<|K7 0 2 3 4 5 9 12 Y<|Tr<|Rm Y<|R2 Zea Y<|Rm Y<|R2 ZM Y<|Ra Y<|Za<|K7 0 2 3 4 6 9 12 Y<|Tr<|Rm Y<|Rm Y<|bE h fun q h_q h=>Rq Y (Zcc (ov Y) (ov Y) h_q)<|bE h fun x h_x h=>Rq Y (ZQ (ov Y) (ov Y) Z5 h_x)<|Rq Y (Zd (ov Y) tS5 Y)<|Rq Y (Z7 (ov Y) tI5 tI3 Y)<|bE h fun q2 h_q2 h=>Rq Y (Zcc (ov Y) (ov Y) h_q2)<|Ra Y<|Za<|I1 (fun half=>⟨[(0, .sl 5 (List.map R5 b)), (2, .ptr 0 1 0 0), (3, .ptr 1 1 0 0), (4, .int .i64 i), (7, .int .i64 half), (9, .int .i64 i), (12, .int .i64 i2)], [some ⟨42, [(List.map C40 (Vector.replicate 64 0).toList)]⟩, some ⟨42, [(List.map C40 f4.toList)]⟩]⟩) h (fun h=>?_) fun half h=>?_
     ·
      refine K8 0 2 3 4 6 7 9 12 Y<|Tr<|Rm Y<|bE h fun q3 h_q3 h=>Rq Y (XY (ov Y) (ov Y) h_q3)<|R2 ZaJ Y<|Za<|K9 0 2 3 4 6 7 9 12 28 Y<|If h Y (fun h=>?_) fun h=>?_
      ·
       exact K8 0 2 3 4 6 7 9 12 Y<|Zt<|Rm Y<|Rm Y<|bE h fun q4 h_q4 h=>Rq Y (Zcc (ov Y) (ov Y) h_q4)<|bE h fun x2 h_x2 h=>Rq Y (ZQ (ov Y) (ov Y) Z5 h_x2)<|Rq Y (Zd (ov Y) tS5 Y)<|Rq Y (Z7 (ov Y) tI5 tI3 Y)<|bE h fun q5 h_q5 h=>Rq Y (XY (ov Y) (ov Y) h_q5)<|Ra Y<|Za<|⟨_, h, ES [some 0, some 1]⟩
      ·
       exact Zh<|⟨_, h, ES [some 0, some 1]⟩
     ·
      exact Zt<|Rm Y<|Rm Y<|bE h fun x3 h_x3 h=>Rq Y (XV (ov Y) (ov Y) XT Y Y h_x3)<|Rq Y (Zu (ov Y) Y Y Y Zar<|Qi<|Q9 (o := 0) (o' := (i.toNat * 1)) (Zq arL)<|Xa h_x3)<|R2 Zea Y<|Rm Y<|Rq Y (Z7 (ov Y) tI3 ZcR Y)<|R2 ZM Y<|bE h fun x4 h_x4 h=>Rq Y (XV (ov Y) (ov Y) XT Y Y h_x4)<|Rx Y (Zi (ov Y) (ov Y) (Zf Zar) Y Y Y (arB h_x4) (Zb Y)<|arS h_x4)<|Za<|K6 0 2 3 4 9 12 Y<|Zt<|R2 ZM Y<|Rm Y<|Za<|⟨_, h, ES [some 0, some 1]⟩
    ·
     refine ZE<|?_
     replace h := lx h ▸ ho2
     exact ⟨_, h, ES [some 0, some 1]⟩
   ·
    exact Zt<|R2 ZM Y<|Rm Y<|Za<|⟨_, h, ES [some 0, some 1]⟩
  ·
   refine ZE<|?_
   replace h := lx h ▸ ho1
   exact ⟨_, h, ES [some 0, some 1]⟩
 ·
  refine Tr<|Rq Y (Qe (ov Y) Y Y Y Qq (ZX<|Zq arL) arL (hns := (nsM fun _ => Y)))<|Rx Y (Zi (ov Y) (ov Y) (Zs Qq arL) Y Y Y (QL (Zq arL) arL) (Zb<|arC fun _ => Y)<|Qj<|Eq.trans arL<|Eq.symm arL)<|Za<|?_
  obtain rfl := rt h
  exact Zn (ZC Y (.one<|.agg Y Y Y Y Qq (ZX<|Zq arL) arL (pwB<|arD fun _ => Y) (hns := (nsM fun _ => Y))))
theorem ZfX {b : List Int} {r : (Vector Int 64) × Int} (h : JE b = some r) :
 CSpec Tryz.prog gl0 91 [.sl 5 (List.map R5 b)] (.tuple [.agg (List.map C40 r.1.toList), .int .i64 r.2]) := by
 unfold JE at h
 replace h := Z0 h
 refine So Tryz.func91 Y fun w0 A=>Tr<|Rx Y (ZN (row := (List.map C40 (Vector.replicate 64 0).toList)) 0 Y Zby Y tZ_42)<|Ra Y<|Za<|Zg<|K2 0 2 Y<|Tr<|Rm Y<|Rl tZ_5 Z5 Y<|R2 ZO Y<|Za<|K3 0 2 6 Y<|If h Y (fun h=>?_) fun h=>?_
 ·
  refine K1 2 Y<|Tr<|R_q (.agg<|List.map C40 (#v[0, 0, 0, 0, 0, 0, 0, 0, 0, 0, 0, 0, 0, 0, 0, 0, 0, 0, 0, 0, 0, 0, 0, 0, 0, 0, 0, 0, 0, 0, 0, 0, 0, 0, 0, 0, 0, 0, 0, 0, 0, 0, 0, 0, 0, 0, 0, 0, 0, 0, 0, 0, 0, 0, 0, 0, 0, 0, 0, 0, 0, 0, 0, 0] : Vector Int 64).toList) Y (Jj (ys := [_, _, _, _, _, _, _, _, _, _, _, _, _, _, _, _, _, _, _, _, _, _, _, _, _, _, _, _, _, _, _, _, _, _, _, _, _, _, _, _, _, _, _, _, _, _, _, _, _, _, _, _, _, _, _, _, _, _, _, _, _, _, _, _]) XT Zby .nil Y)<|Rx Y (Zi (ov Y) (ov Y) (Zs Qq arL) Y Y Y (QL (Zq arL) arL) (Zb<|arC fun _ => Y)<|Qj<|Eq.trans arL<|Eq.symm arL)<|Ra Y<|Za<|?_
  obtain rfl := rt h
  exact Zn (ZC Y (.two (.agg Y Y Y Y Qq (ZX<|Zq arL) arL (pwB<|arD fun _ => Y) (hns := (nsM fun _ => Y)))<|rb Y))
 ·
  refine Zh<|K2 0 2 Y<|Tr<|Rm Y<|bE h fun y h_y h=>Rq Y (Zo (ZhX h_y)<|.cons (ov Y) (.b Y) .nil)<|Rx Y (Zi (ov Y) (ov Y) (Zs Qq arL) Y Y Y (QL (Zq arL) arL) (Zb<|arC fun _ => Y)<|Qj<|Eq.trans arL<|Eq.symm arL)<|Ra Y<|Za<|?_
  obtain rfl := rt h
  exact Zn (ZC Y (.two (.agg Y Y Y Y Qq (ZX<|Zq arL) arL (pwB<|arD fun _ => Y) (hns := (nsM fun _ => Y)))<|rb Y))
theorem ZfO {s : List Int} {i : Int} {r : (Vector Int 64) × Int} (h : Jy s i = some r) :
 CSpec Tryz.prog gl0 40 [.sl 5 (List.map R5 s), .int .i64 i] (.tuple [.agg (List.map C40 r.1.toList), .int .i64 r.2]) := by
 unfold Jy at h
 replace h := Z0 h
 refine So Tryz.func40 Y fun w0 A=>Tr<|Rx Y (ZN (row := (List.map C40 (Vector.replicate 64 0).toList)) 0 Y Zby Y tZ_42)<|Ra Y<|Za<|K3 0 1 4 Y<|Tr<|Rm Y<|bE h fun y h_y h=>Rq Y (Zo (Ze4 h_y)<|.cons (ov Y) (.b Y) .nil)<|Ra Y<|Za<|Zg<|K4 0 1 4 6 Y<|Tr<|Rm Y<|R2 ZO Y<|Za<|K5 0 1 4 6 10 Y<|If h Y (fun h=>?_) fun h=>?_
 ·
  refine K1 4 Y<|Tr<|R_q (.agg<|List.map C40 (#v[0, 0, 0, 0, 0, 0, 0, 0, 0, 0, 0, 0, 0, 0, 0, 0, 0, 0, 0, 0, 0, 0, 0, 0, 0, 0, 0, 0, 0, 0, 0, 0, 0, 0, 0, 0, 0, 0, 0, 0, 0, 0, 0, 0, 0, 0, 0, 0, 0, 0, 0, 0, 0, 0, 0, 0, 0, 0, 0, 0, 0, 0, 0, 0] : Vector Int 64).toList) Y (Jj (ys := [_, _, _, _, _, _, _, _, _, _, _, _, _, _, _, _, _, _, _, _, _, _, _, _, _, _, _, _, _, _, _, _, _, _, _, _, _, _, _, _, _, _, _, _, _, _, _, _, _, _, _, _, _, _, _, _, _, _, _, _, _, _, _, _]) XT Zby .nil Y)<|Rx Y (Zi (ov Y) (ov Y) (Zs Qq arL) Y Y Y (QL (Zq arL) arL) (Zb<|arC fun _ => Y)<|Qj<|Eq.trans arL<|Eq.symm arL)<|Ra Y<|Za<|?_
  obtain rfl := rt h
  exact Zn (ZC Y (.two (.agg Y Y Y Y Qq (ZX<|Zq arL) arL (pwB<|arD fun _ => Y) (hns := (nsM fun _ => Y)))<|rb Y))
 ·
  refine Zh<|Zg<|K4 0 1 4 6 Y<|Tr<|Rm Y<|Rm Y<|R2 ZeV Y<|bE h fun y2 h_y2 h=>Rq Y (Zo (Zd4 h_y2)<|.cons (ov Y) (.b Y)<|.cons (ov Y) (.b Y)<|.cons (ov Y) (.b Y) .nil)<|Za<|K4 0 1 4 15 Y<|If h Y (fun h=>?_) fun h=>?_
  ·
   refine K1 4 Y<|Tr<|R_q (.agg<|List.map C40 (#v[0, 0, 0, 0, 0, 0, 0, 0, 0, 0, 0, 0, 0, 0, 0, 0, 0, 0, 0, 0, 0, 0, 0, 0, 0, 0, 0, 0, 0, 0, 0, 0, 0, 0, 0, 0, 0, 0, 0, 0, 0, 0, 0, 0, 0, 0, 0, 0, 0, 0, 0, 0, 0, 0, 0, 0, 0, 0, 0, 0, 0, 0, 0, 0] : Vector Int 64).toList) Y (Jj (ys := [_, _, _, _, _, _, _, _, _, _, _, _, _, _, _, _, _, _, _, _, _, _, _, _, _, _, _, _, _, _, _, _, _, _, _, _, _, _, _, _, _, _, _, _, _, _, _, _, _, _, _, _, _, _, _, _, _, _, _, _, _, _, _, _]) XT Zby .nil Y)<|Rx Y (Zi (ov Y) (ov Y) (Zs Qq arL) Y Y Y (QL (Zq arL) arL) (Zb<|arC fun _ => Y)<|Qj<|Eq.trans arL<|Eq.symm arL)<|Ra Y<|Za<|?_
   obtain rfl := rt h
   exact Zn (ZC Y (.two (.agg Y Y Y Y Qq (ZX<|Zq arL) arL (pwB<|arD fun _ => Y) (hns := (nsM fun _ => Y)))<|rb Y))
  ·
   refine Zh<|K3 0 1 4 Y<|Tr<|Rm Y<|Rm Y<|bE h fun y3 h_y3 h=>Rq Y (Zo (ZfV h_y3)<|.cons (ov Y) (.b Y)<|.cons (ov Y) (.b Y) .nil)<|bE h fun y4 h_y4 h=>Rq Y (Zo (ZfX h_y4)<|.cons (ov Y) (.b Y) .nil)<|Rq Y (Zl (ov Y) Y)<|Rq Y (Zl (ov Y) Y)<|Rx Y (Zi (ov Y) (ov Y) (Zs Qq arL) Y Y Y (QL (Zq arL) arL) (Zb<|arC fun _ => Y)<|Qj<|Eq.trans arL<|Eq.symm arL)<|Ra Y<|Za<|?_
   obtain rfl := rt h
   exact Zn (ZC Y (.two (.agg Y Y Y Y Qq (ZX<|Zq arL) arL (pwB<|arD fun _ => Y) (hns := (nsM fun _ => Y)))<|rb Y))
theorem ZbR {s : List Int} {i : Int} {r : Bool} (h : Qw s i = some r) :
 CSpec Tryz.prog gl0 7 [.sl 5 (List.map R5 s), .int .i64 i] (.bool r) := by
 unfold Qw at h
 replace h := Z0 h
 refine So Tryz.func7 Y fun w0 A=>Tr<|Ra Y<|Za<|K2 0 1 Y<|Tr<|Rm Y<|bE h fun y h_y h=>Rq Y (Zo (JM h_y)<|.cons (ov Y) (.b Y) .nil)<|Rm Y<|Rq Y (Zl (ov Y) Y)<|Rq Y (Zl (ov Y) Y)<|Rq Y (Zl (ov Y) Y)<|Ra Y<|Ra Y<|Ra Y<|Za<|K5 0 1 5 6 7 Y<|Tr<|Rm Y<|bE h fun y2 h_y2 h=>Rq Y (Zo (Zii h_y2)<|.cons (ov Y) (.b Y) .nil)<|Rm Y<|Rq Y (Zl (ov Y) Y)<|Rq Y (Zl (ov Y) Y)<|Rq Y (Zl (ov Y) Y)<|Ra Y<|Ra Y<|Ra Y<|Za<|Zg<|K8 0 1 5 6 7 8 9 10 Y<|Tr<|Rm Y<|Rm Y<|R2 Xp Y<|Rm Y<|Rq Y (.guarded ((!decide (y.1 = y2.1)) == false) Y Y Y Y fun h => Zc<|ov Y)<|Rq Y (.guarded ((!decide (y.1 = y2.1)) == false) Y Y Y Y fun h => Zc<|ov Y)<|Rq Y (.guarded ((!decide (y.1 = y2.1)) == false) Y Y Y Y fun h => ZhC .neq (by simp) (ow Y h) (ow Y h) tB4)<|Rq Y (ZdB (ov Y) fun hp=>ow Y<|gF hp)<|Rm Y<|Rq Y (.guarded (((!decide (y.1 = y2.1)) || (!(y.2.1 == y2.2.1))) == false) Y Y Y Y fun h => Zc<|ov Y)<|Rq Y (.guarded (((!decide (y.1 = y2.1)) || (!(y.2.1 == y2.2.1))) == false) Y Y Y Y fun h => Zc<|ov Y)<|Rq Y (.guarded (((!decide (y.1 = y2.1)) || (!(y.2.1 == y2.2.1))) == false) Y Y Y Y fun h => ZhC .neq (by simp) (ow Y h) (ow Y h) tB4)<|Rq Y (ZdB (ov Y) fun hp=>ow Y<|gF hp)<|Za<|K3 0 1 41 Y<|If h Y (fun h=>?_) fun h=>?_
 ·
  refine K0<|Tr<|Ra Y<|Za<|?_
  obtain rfl := rt h
  exact Zn (ZC Y (.one<|rb Y))
 ·
  refine Zh<|K2 0 1 Y<|Tr<|Rm Y<|bE h fun y3 h_y3 h=>Rq Y (Zo (Zhf h_y3)<|.cons (ov Y) (.b Y) .nil)<|Rm Y<|Rq Y (Zl (ov Y) Y)<|Rq Y (Zl (ov Y) Y)<|Ra Y<|Ra Y<|Za<|K4 0 1 11 12 Y<|Tr<|Rm Y<|bE h fun y4 h_y4 h=>Rq Y (Zo (Zhb h_y4)<|.cons (ov Y) (.b Y) .nil)<|Rm Y<|Rq Y (Zl (ov Y) Y)<|Rq Y (Zl (ov Y) Y)<|Ra Y<|Ra Y<|Za<|Zg<|K6 0 1 11 12 13 14 Y<|Tr<|Rm Y<|Rm Y<|R2 Xp Y<|Rm Y<|Rq Y (.guarded ((!decide (y3.2 = y4.2)) == false) Y Y Y Y fun h => Zc<|ov Y)<|Rq Y (.guarded ((!decide (y3.2 = y4.2)) == false) Y Y Y Y fun h => Zc<|ov Y)<|bE h fun y5 h_y5 h=>Rq Y (.guarded ((!decide (y3.2 = y4.2)) == false) Y Y Y Y fun h => Zo (Zdn<|gdT h_y5 h)<|.cons (ow Y h) (.b Y)<|.cons (ow Y h) (.b Y) .nil)<|Rq Y (.guarded ((!decide (y3.2 = y4.2)) == false) Y Y Y Y fun h => X2<|ow Y h)<|Rq Y (ZdB (ov Y) fun hp=>ow Y<|gF hp)<|Za<|K3 0 1 60 Y<|If h Y (fun h=>?_) fun h=>?_
  ·
   refine K0<|Tr<|Ra Y<|Za<|?_
   obtain rfl := rt h
   exact Zn (ZC Y (.one<|rb Y))
  ·
   refine Zh<|K2 0 1 Y<|Tr<|Rm Y<|Rm Y<|bE h fun y6 h_y6 h=>Rq Y (Zo (Zfu h_y6)<|.cons (ov Y) (.b Y)<|.cons (ov Y) (.b Y) .nil)<|Rm Y<|Rq Y (Zl (ov Y) Y)<|Rq Y (Zl (ov Y) Y)<|Rx Y (ZN (row := (List.map C40 (Vector.replicate 64 0).toList)) 0 Y Zby Y tZ_42)<|Rx Y (Zi (ov Y) (ov Y) (Zs Qq arL) Y Y Y (QL (Zq arL) arL) (Zb<|arC fun _ => Y)<|Qj<|Eq.trans arL<|Eq.symm arL)<|Ra Y<|Za<|K4 0 1 12 15 Y<|Tr<|Rm Y<|Rm Y<|bE h fun y7 h_y7 h=>Rq Y (Zo (ZfO h_y7)<|.cons (ov Y) (.b Y)<|.cons (ov Y) (.b Y) .nil)<|Rm Y<|Rq Y (Zl (ov Y) Y)<|Rq Y (Zl (ov Y) Y)<|Rx Y (ZN (row := (List.map C40 (Vector.replicate 64 0).toList)) 1 Y Zby Y tZ_42)<|Rx Y (Zi (ov Y) (ov Y) (Zs Qq arL) Y Y Y (QL (Zq arL) arL) (Zb<|arC fun _ => Y)<|Qj<|Eq.trans arL<|Eq.symm arL)<|Ra Y<|Za<|K4 12 14 15 16 Y<|Tr<|Rq Y (Qe (ov Y) Y Y Y Qq (ZX<|Zq arL) arL (hns := (nsM fun _ => Y)))<|Rq Y (Qe (ov Y) Y Y Y Qq (ZX<|Zq arL) arL (hns := (nsM fun _ => Y)))<|Rq Y (Zk0 Zl5 (ov Y) (ov Y) (.aggB<|arD fun _ => Y) (.aggB<|arD fun _ => Y) (fkV fun _ => Y) (fkV fun _ => Y)<|eqV fun _ _ => Y)<|Rm Y<|Rq Y (.guarded ((decide (y6.1 = y7.1)) == true) Y Y Y Y fun h => Zc<|ov Y)<|Rq Y (.guarded ((decide (y6.1 = y7.1)) == true) Y Y Y Y fun h => Zc<|ov Y)<|Rq Y (.guarded ((decide (y6.1 = y7.1)) == true) Y Y Y Y fun h => ZaJ (ow Y h)<|ow Y h)<|Rq Y (Zck (ov Y) fun hp=>ow Y<|gT hp)<|Rm Y<|bE h fun y8 h_y8 h=>Rq Y (.guarded (((decide (y6.1 = y7.1)) && (decide (y6.2 = y7.2))) == true) Y Y Y Y fun h => Zo (Ziu<|gdT h_y8 h) .nil)<|Rq Y (Zck (ov Y) fun hp=>ow Y<|gT hp)<|Ra Y<|Za<|?_
   obtain rfl := rt h
   exact Zn (ZC Y (.one<|rb Y))
end Go.Proofs.YtnlmjeleocelgaaGreatDoor
