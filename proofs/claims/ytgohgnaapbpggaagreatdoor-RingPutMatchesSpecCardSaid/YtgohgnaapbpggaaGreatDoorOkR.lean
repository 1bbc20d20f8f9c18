/- A text of the proof: a verified executor of the program form, or the contracts of the functions that the law reaches. -/
import Derived.Test.YtgohgnaapbpggaaGreatDoorOkRc
set_option linter.all false
namespace Go.Proofs.YtgohgnaapbpggaaGreatDoor
open Go Go.Vx
set_option maxRecDepth 10000
set_option maxHeartbeats 1000000
set_option linter.unusedVariables false
theorem Zhl {l : List api_Memory} {r : (List api_Memory)} (h : XK l = some r) :
 CSpec Tryz.prog gl0 35 [.sl 59 (List.map R59 l)] (.sl 59 (List.map R59 r)) := by
 unfold XK at h
 replace h := Z5 h
 refine So Tryz.func35 Y fun w0 A=>Tr<|Ra Y<|Za<|K1 0 Y<|Tr<|Ra Y<|Za<|I1 (fun out=>⟨[(3, .own 0 out.length)], [some ⟨59, List.map O59 out⟩]⟩) h (fun h=>?_) fun out h=>?_
 ·
  refine Tr<|Rm Y<|Rl tZ_59 ZcU Y<|Rm Y<|Za<|Ze<|?_
  obtain ⟨r1, hl1, ho1⟩ := QP h
  refine L2 (fun out2 i=>⟨[(3, .own 0 out2.length), (6, .sl 59 (List.map R59 l)), (7, .int .i64 (l.length : Int)), (8, .int .i64 i)], [some ⟨59, List.map O59 out2⟩]⟩) hl1 (ES [none]) fun n1 out2 i h=>?_
  unfold Jx at h
  refine Tr<|R2 ZJ Y<|Za<|Zf<|If h Y (fun h=>?_) fun h=>?_
  ·
   exact Zh<|Zf<|Ze<|K4 3 6 7 8 Y<|Tr<|bE h fun x h_x h=>Rq Y (Qo (ov Y) (ov Y) ZcU h_x)<|Rq Y (Xp (ov Y) Jt Y Y)<|Rx Y (Qg (row := [_, _, _, _, _]) 1 Y Zdx Y tZ_59)<|Rx Y (Zm (ov Y) (ov Y) (Zy Jt Y) Y Y Y (Nat.le_of_ble_eq_true Y) (Zb Y) Y)<|Za<|K5 3 5 6 7 8 Y<|Xa [some ⟨59, List.map O59 out2⟩, some ⟨59, [[.int .i64 x.Slots, .int .i64 x.Limit, .sl 22 (List.map R22 x.Sectors), .sl 3 (List.map R3 x.Wear), .sl 4 (List.map R4 x.Bad)]]⟩] Y<|Zq<|Rm Y<|Rq Y (QE (ov Y) Y Y Y Jt Y Y)<|bE h fun y h_y h=>Rx Y (Zv [] (Zcg h_y) (.cons (ov Y) (Zey<|rld Y) .nil) .nil Y (.keep Y Y<|.keep Y Y<|.lent 0 (.inr ⟨Nat.le_of_ble_eq_true Y, Y⟩) Y (roO XD)<|.lent 1 (.inr ⟨Nat.le_of_ble_eq_true Y, Y⟩) Y (roM D3)<|.lent 2 (.inr ⟨Nat.le_of_ble_eq_true Y, Y⟩) Y (roM D4) .nil) Y Y<|Zey<|rlc (.dat Y)<|rlc (.dat Y)<|rlc (.own _<|.inr ⟨Nat.le_of_ble_eq_true Y, Y⟩)<|rlc (.own _<|.inr ⟨Nat.le_of_ble_eq_true Y, Y⟩)<|rlc (.own _<|.inr ⟨Nat.le_of_ble_eq_true Y, Y⟩) rln)<|Rx Y (Qw (r := 5) Y ZcU (.cons (cva<|ov Y) Y .nil) Y Y)<|bE h fun l2 h_l2 h=>Rx Y (ZE (f := O59) (ov Y) (ZZ (o := ⟨59, [[.int .i64 y.Slots, .int .i64 y.Limit, .own 2 y.Sectors.length, .own 3 y.Wear.length, .own 4 y.Bad.length]]⟩) (ov Y) Y Y tZ_59) ZcU Y Y (Zb Y) Y h_l2)<|Ra Y<|ZeS [some ⟨59, List.set (List.map O59 l2) out2.length [.int .i64 y.Slots, .int .i64 y.Limit, .own 2 y.Sectors.length, .own 3 y.Wear.length, .own 4 y.Bad.length]⟩, some ⟨59, [[.int .i64 x.Slots, .int .i64 x.Limit, .sl 22 (List.map R22 x.Sectors), .sl 3 (List.map R3 x.Wear), .sl 4 (List.map R4 x.Bad)]]⟩, some ⟨22, List.map O22 y.Sectors⟩, some ⟨3, List.map R3 y.Wear⟩, some ⟨4, List.map R4 y.Bad⟩, some ⟨59, [[.int .i64 y.Slots, .int .i64 y.Limit, .own 2 y.Sectors.length, .own 3 y.Wear.length, .own 4 y.Bad.length]]⟩] Y<|QW (Ent.absorbH (r := 0) (j := 2) (q := 2) Y (Zo h_l2) Y Y (List.length_map ..) Y)<|QW (Ent.absorbH (r := 0) (j := 3) (q := 3) Y (Zo h_l2) Y Y (List.length_map ..) Y)<|QW (Ent.absorbH (r := 0) (j := 4) (q := 4) Y (Zo h_l2) Y Y (List.length_map ..) Y)<|QW (Ent.closeS (r := 0) Y (Zo h_l2) Y)<|Za<|K4 3 6 7 8 Y<|Xa [some ⟨59, List.map O59 l2⟩, some ⟨59, [[.int .i64 x.Slots, .int .i64 x.Limit, .sl 22 (List.map R22 x.Sectors), .sl 3 (List.map R3 x.Wear), .sl 4 (List.map R4 x.Bad)]]⟩, none, none, none, some ⟨59, [[.int .i64 y.Slots, .int .i64 y.Limit, .own 2 y.Sectors.length, .own 3 y.Wear.length, .own 4 y.Bad.length]]⟩] Y<|Zq<|R2 ZI Y<|Rm Y<|Za<|⟨_, h, ES [some 0] (hhp := .cons Y (roO XC) .nil)⟩
  ·
   refine ZD<|?_
   replace h := lx h ▸ ho1
   exact ⟨_, h, ES [some 0] (hhp := .cons Y (roO XC) .nil)⟩
 ·
  refine Tr<|Rm Y<|Ra Y<|Za<|?_
  obtain rfl := rt h
  exact Zn (ZN Y (.one<|.tmp Y<|View.ownO Y Y XC (fun x=>(D59 x).1) Zjw))
theorem ZcG {r_ : ring_Recorder} {r : (List api_Memory)} (h : QO r_ = some r) :
 GSpec Tryz.prog gl0 21 [.ptr 0 1 0 0] [some ⟨80, [[.own 1 r_.bank.memories.length, .own 2 r_.bank.spots.length, .int .i64 r_.copies, .bool r_.frozen, .bool r_.stopped, .int .i64 r_.last, .bool r_.some_]]⟩, some ⟨59, List.map O59 r_.bank.memories⟩, some ⟨83, List.map R83 r_.bank.spots⟩] (.sl 59 (List.map R59 r)) [some ⟨80, [[.sl 59 (List.map R59 r_.bank.memories), .own 3 r_.bank.spots.length, .int .i64 r_.copies, .bool r_.frozen, .bool r_.stopped, .int .i64 r_.last, .bool r_.some_]]⟩, none, none, some ⟨83, List.map R83 r_.bank.spots⟩] := by
 unfold QO at h
 replace h := Z5 h
 refine Z1 (by kernel_rfl) Tryz.func21 Y Y<|?_
 intro w0 A W φ0
 refine Zfq (Ent.sel [some 0, some 1, some 2, some 1, some 2] (sr 0 Y (.ptr (r' := 0) _ _ _ Y) sn) (.cons Y (ro1 (by exact tZ_80.symm)<|rlc (.own (r' := 3) _ Y)<|rlc (.own (r' := 4) _ Y)<|rlc (.dat Y)<|rlc (.dat Y)<|rlc (.dat Y)<|rlc (.dat Y)<|rlc (.dat Y) rln)<|.dead<|.dead<|.cons Y (roO XC)<|.cons Y (roM D83) .nil) Y Y)<|Xa [some ⟨80, [[.own 3 r_.bank.memories.length, .own 4 r_.bank.spots.length, .int .i64 r_.copies, .bool r_.frozen, .bool r_.stopped, .int .i64 r_.last, .bool r_.some_]]⟩, none, none, some ⟨59, List.map O59 r_.bank.memories⟩, some ⟨83, List.map R83 r_.bank.spots⟩] Y<|Tr<|Ra Y<|Za<|Tr<|Rm Y<|Rq Y (Zu (ov Y) Y Y)<|Rq Y (Zl (ov Y) Y Y ZeY)<|Rq Y (Zl (ov Y) Y Y ZdW)<|Rq Y (Zt (ov Y) Y Y Y ZiL Y)<|bE h fun y h_y h=>QW (Ent.meltO (r := 3) Y XC (fun x=>(D59 x).1) Zjw)<|QW (Ent.sel [some 0, some 1, some 2, none, some 4] (sr 0 Y (.ptr (r' := 0) _ _ _ Y)<|sd 2 Y Y<|sr 3 Y (.ptr (r' := 0) _ _ _ Y)<|sr 4 Y (.ptr (r' := 0) _ _ _ Y)<|sr 5 Y (.ptr (r' := 0) _ _ _ Y)<|sr 6 Y (.ptr (r' := 0) _ _ _ Y)<|sr 7 Y (Zmh Y Y Y D59) sn) (.cons Y (ro1 (by exact tZ_80.symm)<|rlc (Zmh Y Y Y D59)<|rlc (.own (r' := 4) _ Y)<|rlc (.dat Y)<|rlc (.dat Y)<|rlc (.dat Y)<|rlc (.dat Y)<|rlc (.dat Y) rln)<|.dead<|.dead<|.row 59<|.cons Y (roM D83) .nil) Y Y)<|Rq Y (Zr (Zhl h_y)<|.cons (ov Y) (.b Y) .nil)<|Ra Y<|Za<|?_
 obtain rfl := rt h
 exact Zn<|XY [some 0, some 1, some 2, some 4] Y (.cons (.tmp Y) .nil) (.cons Y (ro1 (by exact tZ_80.symm)<|rlc (.dat Y)<|rlc (.own _ Y)<|rlc (.dat Y)<|rlc (.dat Y)<|rlc (.dat Y)<|rlc (.dat Y)<|rlc (.dat Y) rln)<|.dead<|.dead<|.cons Y (roM D83) .nil) Y Y<|.dat Y
theorem Zhk {p : Vector Int 96} {i : Int} {r : Int} (h : Za7 p i = some r) :
 CSpec Tryz.prog gl0 131 [.rp (List.map C5 p.toList) 0, .int .i64 i] (.int .u16 r) := by
 unfold Za7 at h
 replace h := Z5 h
 refine So Tryz.func131 Y fun w0 A=>Tr<|Ra Y<|Za<|K2 0 1 Y<|Tr<|Rm Y<|bE h fun q h_q h=>Rq Y (ZdU (ov Y) (ov Y) h_q)<|R2 ZfQ Y<|Ra Y<|Za<|Zf<|K3 0 1 5 Y<|Tr<|Rm Y<|bE h fun q2 h_q2 h=>Rq Y (Zaq (ov Y) (ov Y) h_q2)<|R2 JG Y<|Za<|K3 0 5 11 Y<|If h Y (fun h=>?_) fun h=>?_
 ·
  refine Zf<|K2 0 5 Y<|Qm (cw := md0) (by kernel_rfl)<|D1 0 Zc Y<|D1 1 Zc Y<|D1 2 ZC Y<|bE h fun x h_x h=>Dq 3 Y (QS (ov Y) (ov Y) Zdl h_x)<|Dq 4 Y (Zi (ov Y) tS5<|Qx<|Xw (o := 0) (o' := ((i64 (q * 3)).toNat * 1)) (Zs arL)<|Xs h_x)<|Dq 5 Y (Qe (ov Y) tI5 Zda Y)<|bE h fun q3 h_q3 h=>Dq 6 Y (ZdZ (ov Y) (ov Y) h_q3)<|D1 7 Zc Y<|D1 8 Zc Y<|D2 9 ZI Y<|D1 10 ZC Y<|bE h fun x2 h_x2 h=>Dq 11 Y (QS (ov Y) (ov Y) Zdl h_x2)<|Dq 12 Y (Zi (ov Y) tS5<|Qx<|Xw (o := 0) (o' := ((i64 ((i64 (q * 3)) + 1)).toNat * 1)) (Zs arL)<|Xs h_x2)<|Dq 13 Y (Qe (ov Y) tI5 Zda Y)<|bE h fun q4 h_q4 h=>Dq 14 Y (Zao (ov Y) (ov Y) h_q4)<|D2 15 Zeo Y<|D1 16 Qh Y<|Dd<|?_
  obtain rfl := rt h
  exact Zn (ZN Y (.one<|rb Y))
 ·
  refine Zh<|Zf<|K2 0 5 Y<|Qm (cw := md0) (by kernel_rfl)<|D1 0 Zc Y<|D1 1 Zc Y<|D2 2 ZI Y<|D1 3 ZC Y<|bE h fun x3 h_x3 h=>Dq 4 Y (QS (ov Y) (ov Y) Zdl h_x3)<|Dq 5 Y (Zi (ov Y) tS5<|Qx<|Xw (o := 0) (o' := ((i64 ((i64 (q * 3)) + 1)).toNat * 1)) (Zs arL)<|Xs h_x3)<|Dq 6 Y (Qe (ov Y) tI5 Zda Y)<|D2 7 Jn Y<|bE h fun q5 h_q5 h=>Dq 8 Y (ZdZ (ov Y) (ov Y) h_q5)<|D1 9 Zc Y<|D1 10 Zc Y<|D2 11 ZI Y<|D1 12 ZC Y<|bE h fun x4 h_x4 h=>Dq 13 Y (QS (ov Y) (ov Y) Zdl h_x4)<|Dq 14 Y (Zi (ov Y) tS5<|Qx<|Xw (o := 0) (o' := ((i64 ((i64 (q * 3)) + 2)).toNat * 1)) (Zs arL)<|Xs h_x4)<|Dq 15 Y (Qe (ov Y) tI5 Zda Y)<|D2 16 Zeo Y<|D1 17 Qh Y<|Dd<|?_
  obtain rfl := rt h
  exact Zn (ZN Y (.one<|rb Y))
theorem Zid {p : Vector Int 96} {r : (Vector Int 64)} (h : Zc8 p = some r) :
 CSpec Tryz.prog gl0 116 [.rp (List.map C5 p.toList) 0] (.agg (List.map C44 r.toList)) := by
 unfold Zc8 at h
 replace h := Z5 h
 refine So Tryz.func116 Y fun w0 A=>Tr<|Rx Y (Qg (row := (List.map C44 (Vector.replicate 64 0).toList)) 0 Y Zgm Y tZ_46)<|Za<|Tr<|Rx Y (Qg (row := (List.map C44 (Vector.replicate 64 0).toList)) 1 Y Zgm Y tZ_46)<|Za<|I1 (fun f=>⟨[(2, .ptr 0 1 0 0), (3, .ptr 1 1 0 0)], [some ⟨46, [(List.map C44 (Vector.replicate 64 0).toList)]⟩, some ⟨46, [(List.map C44 f.toList)]⟩]⟩) h (fun h=>?_) fun f h=>?_
 ·
  refine Tr<|Rm Y<|Za<|Ze<|?_
  obtain ⟨r1, hl1, ho1⟩ := QP h
  refine L2 (fun f2 i=>⟨[(0, .rp (List.map C5 p.toList) 0), (2, .ptr 0 1 0 0), (3, .ptr 1 1 0 0), (5, .int .i64 i)], [some ⟨46, [(List.map C44 (Vector.replicate 64 0).toList)]⟩, some ⟨46, [(List.map C44 f2.toList)]⟩]⟩) hl1 (ES [some 0, some 1]) fun n1 f2 i h=>?_
  unfold Zb0 at h
  refine Tr<|R2 ZJ Y<|Za<|Zf<|If h Y (fun h=>?_) fun h=>?_
  ·
   exact Zh<|Zf<|Ze<|K4 0 2 3 5 Y<|Tr<|Rm Y<|Ra Y<|Za<|K5 0 2 3 4 5 Y<|Zq<|Rm Y<|Rm Y<|Rm Y<|bE h fun y h_y h=>Rq Y (Zr (Zhk h_y)<|.cons (ov Y) (.b Y)<|.cons (ov Y) (.b Y) .nil)<|bE h fun x h_x h=>Rq Y (JC (ov Y) (ov Y) Zan Y Y h_x)<|Rx Y (Zm (ov Y) (ov Y) (Zd Zbb) Y Y Y (arB h_x) (Zb Y)<|arS h_x)<|Za<|K4 0 2 3 5 Y<|Zq<|R2 ZI Y<|Rm Y<|Za<|⟨_, h, ES [some 0, some 1]⟩
  ·
   refine ZD<|?_
   replace h := lx h ▸ ho1
   exact ⟨_, h, ES [some 0, some 1]⟩
 ·
  refine Tr<|Rq Y (QE (ov Y) Y Y Y X8 (QL<|Zs arL) arL (hns := (nsM fun _ => Y)))<|Rx Y (Zm (ov Y) (ov Y) (Zy X8 arL) Y Y Y (ZaP (Zs arL) arL) (Zb<|arC fun _ => Y)<|Jl<|Eq.trans arL<|Eq.symm arL)<|Za<|?_
  obtain rfl := rt h
  exact Zn (ZN Y (.one<|.agg Y Y Y Y X8 (QL<|Zs arL) arL (pwB<|arD fun _ => Y) (hns := (nsM fun _ => Y))))
theorem ZfO {b : List Int} {r : (Vector Int 64) × Int} (h : Js b = some r) :
 CSpec Tryz.prog gl0 97 [.sl 5 (List.map R5 b)] (.tuple [.agg (List.map C44 r.1.toList), .int .i64 r.2]) := by
 unfold Js at h
 replace h := Z5 h
 refine So Tryz.func97 Y fun w0 A=>Tr<|Rx Y (Qg (row := (List.map C44 (Vector.replicate 64 0).toList)) 0 Y Zgm Y tZ_46)<|Ra Y<|Za<|Zf<|K2 0 2 Y<|Tr<|Rm Y<|Rl tZ_5 ZL Y<|R2 ZJ Y<|Za<|K3 0 2 7 Y<|If h Y (fun h=>?_) fun h=>?_
 ·
  refine K1 2 Y<|Tr<|R_q (.agg<|List.map C44 (#v[0, 0, 0, 0, 0, 0, 0, 0, 0, 0, 0, 0, 0, 0, 0, 0, 0, 0, 0, 0, 0, 0, 0, 0, 0, 0, 0, 0, 0, 0, 0, 0, 0, 0, 0, 0, 0, 0, 0, 0, 0, 0, 0, 0, 0, 0, 0, 0, 0, 0, 0, 0, 0, 0, 0, 0, 0, 0, 0, 0, 0, 0, 0, 0] : Vector Int 64).toList) Y (ZdG (ys := [_, _, _, _, _, _, _, _, _, _, _, _, _, _, _, _, _, _, _, _, _, _, _, _, _, _, _, _, _, _, _, _, _, _, _, _, _, _, _, _, _, _, _, _, _, _, _, _, _, _, _, _, _, _, _, _, _, _, _, _, _, _, _, _]) Zan Zgm .nil Y)<|Rx Y (Zm (ov Y) (ov Y) (Zy X8 arL) Y Y Y (ZaP (Zs arL) arL) (Zb<|arC fun _ => Y)<|Jl<|Eq.trans arL<|Eq.symm arL)<|Ra Y<|Za<|?_
  obtain rfl := rt h
  exact Zn (ZN Y (.two (.agg Y Y Y Y X8 (QL<|Zs arL) arL (pwB<|arD fun _ => Y) (hns := (nsM fun _ => Y)))<|rb Y))
 ·
  refine Zh<|K2 0 2 Y<|Tr<|Rm Y<|bE h fun l h_l h=>Rq Y (ZdH (ov Y) ZL on (oi<|ov Y) h_l)<|bE h fun v h_v h=>Rq Y (ZjB (f := C5) (ov Y) Zdl tZ_5 Y h_v)<|Rq Y (Xp (ov Y) ZlI (QL<|Zs arL) arL)<|Rx Y (Qg (row := (List.map C5 (Vector.replicate 96 0).toList)) 1 Y ZlB Y tZ_141)<|Rx Y (Zm (ov Y) (ov Y) (Zy ZlI arL) Y Y Y (ZaP (Zs arL) arL) (Zb<|arC fun _ => Y)<|Jl<|Eq.trans arL<|Eq.symm arL)<|Za<|K2 2 4 Y<|Tr<|bE h fun y h_y h=>Rq Y (J3 (Zid h_y) (Zjl fun _=>.int)<|.cons (ov Y) (View.ptr Y Y Y (pwB<|arD fun _ => Y) (hns := (nsM fun _ => Y))) .nil)<|Rx Y (Zm (ov Y) (ov Y) (Zy X8 arL) Y Y Y (ZaP (Zs arL) arL) (Zb<|arC fun _ => Y)<|Jl<|Eq.trans arL<|Eq.symm arL)<|Ra Y<|Za<|?_
  obtain rfl := rt h
  exact Zn (ZN Y (.two (.agg Y Y Y Y X8 (QL<|Zs arL) arL (pwB<|arD fun _ => Y) (hns := (nsM fun _ => Y)))<|rb Y))
theorem Zhf {l : List api_Memory} {r : (List api_Kept) × Int} (h : Za6 l = some r) :
 CSpec Tryz.prog gl0 65 [.sl 59 (List.map R59 l)] (.tuple [.sl 123 (List.map R123 r.1), .int .i64 r.2]) := by
 unfold Za6 at h
 replace h := Z5 h
 refine So Tryz.func65 Y fun w0 A=>Tr<|Ra Y<|Ra Y<|Za<|Zf<|K1 0 Y<|Tr<|Rm Y<|bE h fun y h_y h=>Rq Y (Zr (ZdP h_y)<|.cons (ov Y) (.b Y) .nil)<|Ra Y<|Za<|K2 0 4 Y<|Tr<|Rm Y<|R2 Jf Y<|Za<|K3 0 4 20 Y<|If h Y (fun h=>?_) fun h=>?_
 ·
  refine K1 4 Y<|Tr<|Rm Y<|Ra Y<|Ra Y<|Za<|?_
  obtain rfl := rt h
  exact Zn (ZN Y (.two (.tmp Y<|View.nils 123)<|rb Y))
 ·
  refine Zh<|K1 0 Y<|Tr<|Ra Y<|Za<|I1 (fun out=>⟨[(5, .own 0 out.length)], [some ⟨123, List.map R123 out⟩]⟩) h (fun h=>?_) fun out h=>?_
  ·
   refine Tr<|Rm Y<|Rl tZ_59 ZcU Y<|Rm Y<|Za<|Ze<|?_
   obtain ⟨r1, hl1, ho1⟩ := QP h
   refine L2 (fun out2 i=>⟨[(5, .own 0 out2.length), (22, .sl 59 (List.map R59 l)), (23, .int .i64 (l.length : Int)), (24, .int .i64 i)], [some ⟨123, List.map R123 out2⟩]⟩) hl1 (ES [none]) fun n1 out2 i h=>?_
   unfold ZaI at h
   refine Tr<|R2 ZJ Y<|Za<|Zf<|If h Y (fun h=>?_) fun h=>?_
   ·
    refine Zh<|I1 (fun out3=>⟨[(5, .own 0 out3.length), (22, .sl 59 (List.map R59 l)), (23, .int .i64 (l.length : Int)), (24, .int .i64 i)], [some ⟨123, List.map R123 out3⟩]⟩) h (fun h=>?_) fun out3 h=>?_
    ·
     refine Ze<|K4 5 22 23 24 Y<|Tr<|Rm Y<|bE h fun x h_x h=>Rq Y (Qo (ov Y) (ov Y) ZcU h_x)<|Rq Y (Xp (ov Y) Jt Y Y)<|Rx Y (Qg (row := [_, _, _, _, _]) 1 Y Zdx Y tZ_59)<|Ra Y<|Rx Y (Zm (ov Y) (ov Y) (Zy Jt Y) Y Y Y (Nat.le_of_ble_eq_true Y) (Zb Y) Y)<|Za<|K6 5 6 7 22 23 24 Y<|Tr<|Rq Y (QE (ov Y) Y Y Y Jt Y Y)<|bE h fun y2 h_y2 h=>Rq Y (Zr (Zem h_y2)<|.cons (ov Y) (.aggB Y) .nil)<|Rl tZ_3 QK Y<|Rm Y<|Za<|Ze<|?_
     obtain ⟨r2, hl2, ho2⟩ := QP h
     refine L2 (fun out4 i2=>⟨[(5, .own 0 out4.length), (6, .int .i64 i), (7, .ptr 1 1 0 0), (22, .sl 59 (List.map R59 l)), (23, .int .i64 (l.length : Int)), (24, .int .i64 i), (30, .sl 3 (List.map R3 y2)), (31, .int .i64 (y2.length : Int)), (32, .int .i64 i2)], [some ⟨123, List.map R123 out4⟩, some ⟨59, [[.int .i64 x.Slots, .int .i64 x.Limit, .sl 22 (List.map R22 x.Sectors), .sl 3 (List.map R3 x.Wear), .sl 4 (List.map R4 x.Bad)]]⟩]⟩) hl2 (ES [some 0, some 1]) fun n2 out4 i2 h=>?_
     unfold ZaD at h
     refine Tr<|R2 ZJ Y<|Za<|Zf<|If h Y (fun h=>?_) fun h=>?_
     ·
      refine Zh<|I1 (fun out5=>⟨[(5, .own 0 out5.length), (6, .int .i64 i), (7, .ptr 1 1 0 0), (22, .sl 59 (List.map R59 l)), (23, .int .i64 (l.length : Int)), (24, .int .i64 i), (30, .sl 3 (List.map R3 y2)), (31, .int .i64 (y2.length : Int)), (32, .int .i64 i2)], [some ⟨123, List.map R123 out5⟩, some ⟨59, [[.int .i64 x.Slots, .int .i64 x.Limit, .sl 22 (List.map R22 x.Sectors), .sl 3 (List.map R3 x.Wear), .sl 4 (List.map R4 x.Bad)]]⟩]⟩) h (fun h=>?_) fun out5 h=>?_
      ·
       refine Ze<|K9 5 6 7 22 23 24 30 31 32 Y<|Tr<|bE h fun x2 h_x2 h=>Rq Y (Qo (ov Y) (ov Y) QK h_x2)<|Rq Y (Zi (ov Y) tS3 Y)<|Ra Y<|Za<|K10 5 6 7 9 22 23 24 30 31 32 Y<|Tr<|Rq Y (Zl (ov Y) Y Y ZH)<|Rq Y (Zt (ov Y) Y Y Y Ql Y)<|Rm Y<|bE h fun x3 h_x3 h=>Rq Y (Qo (ov Y) (ov Y) Z8 h_x3)<|Rq Y (Zi (ov Y) Zhi Y)<|bE h fun y3 h_y3 h=>Rq Y (Zr (Zbu h_y3)<|.cons (ov Y) (.b Y) .nil)<|Rm Y<|Rq Y (Zg (ov Y) Y)<|Rq Y (Zg (ov Y) Y)<|Rq Y (Zg (ov Y) Y)<|Ra Y<|Ra Y<|Ra Y<|Za<|K11 5 6 7 9 10 22 23 24 30 31 32 Y<|Tr<|Rq Y (Zl (ov Y) Y Y Zh2)<|Rq Y (Zt (ov Y) Y Y Y tS3 Y)<|Rm Y<|Za<|Ze<|?_
       obtain ⟨r3, hl3, ho3⟩ := QP h
       refine L2 (fun out6 i3=>⟨[(5, .own 0 out6.length), (6, .int .i64 i), (7, .ptr 1 1 0 0), (9, .int .i64 x2), (10, .int .i64 y3.1), (22, .sl 59 (List.map R59 l)), (23, .int .i64 (l.length : Int)), (24, .int .i64 i), (30, .sl 3 (List.map R3 y2)), (31, .int .i64 (y2.length : Int)), (32, .int .i64 i2), (47, .int .i64 x.Slots), (48, .int .i64 i3)], [some ⟨123, List.map R123 out6⟩, some ⟨59, [[.int .i64 x.Slots, .int .i64 x.Limit, .sl 22 (List.map R22 x.Sectors), .sl 3 (List.map R3 x.Wear), .sl 4 (List.map R4 x.Bad)]]⟩]⟩) hl3 (ES [some 0, some 1]) fun n3 out6 i3 h=>?_
       unfold ZaF at h
       refine Tr<|R2 ZJ Y<|Za<|Zf<|If h Y (fun h=>?_) fun h=>?_
       ·
        refine Zh<|Zf<|Ze<|XU (kc 5 Y<|kc 6 Y<|kc 7 Y<|kc 9 Y<|kc 10 Y<|kc 22 Y<|kc 23 Y<|kc 24 Y<|kc 30 Y<|kc 31 Y<|kc 32 Y<|kc 47 Y<|kc 48 Y kn) Y<|Tr<|Rm Y<|Ra Y<|Za<|XU (kc 5 Y<|kc 6 Y<|kc 7 Y<|kc 9 Y<|kc 10 Y<|kc 13 Y<|kc 22 Y<|kc 23 Y<|kc 24 Y<|kc 30 Y<|kc 31 Y<|kc 32 Y<|kc 47 Y<|kc 48 Y kn) Y<|Tr<|Rq Y (Zl (ov Y) Y Y ZH)<|Rq Y (Zt (ov Y) Y Y Y Ql Y)<|Rm Y<|bE h fun x4 h_x4 h=>Rq Y (Qo (ov Y) (ov Y) Z8 h_x4)<|Rq Y (Zi (ov Y) Zhi Y)<|Rm Y<|bE h fun y4 h_y4 h=>Rq Y (Zr (ZeW h_y4)<|.cons (ov Y) (.b Y)<|.cons (ov Y) (.b Y) .nil)<|Ra Y<|Za<|XU (kc 5 Y<|kc 6 Y<|kc 7 Y<|kc 9 Y<|kc 10 Y<|kc 13 Y<|kc 14 Y<|kc 22 Y<|kc 23 Y<|kc 24 Y<|kc 30 Y<|kc 31 Y<|kc 32 Y<|kc 47 Y<|kc 48 Y kn) Y<|Tr<|Rm Y<|bE h fun y5 h_y5 h=>Rq Y (Zr (Zei h_y5)<|.cons (ov Y) (.b Y) .nil)<|R2 JG Y<|Za<|XU (kc 5 Y<|kc 6 Y<|kc 7 Y<|kc 9 Y<|kc 10 Y<|kc 13 Y<|kc 14 Y<|kc 22 Y<|kc 23 Y<|kc 24 Y<|kc 30 Y<|kc 31 Y<|kc 32 Y<|kc 47 Y<|kc 48 Y<|kc 60 Y kn) Y<|If h Y (fun h=>?_) fun h=>?_
        ·
         exact XU (kc 5 Y<|kc 6 Y<|kc 7 Y<|kc 9 Y<|kc 10 Y<|kc 13 Y<|kc 14 Y<|kc 22 Y<|kc 23 Y<|kc 24 Y<|kc 30 Y<|kc 31 Y<|kc 32 Y<|kc 47 Y<|kc 48 Y kn) Y<|Tr<|Rm Y<|R1 ZC Y<|bE h fun l2 h_l2 h=>Rq Y (Zj5 (f := C5) (ov Y) ZjJ tZ_5 (Zs arL) Y on on h_l2)<|bE h fun y6 h_y6 h=>Rq Y (Zr (ZfO h_y6)<|.cons (ov Y) (.b Y) .nil)<|Rm Y<|Rq Y (Zg (ov Y) Y)<|Rq Y (Zg (ov Y) Y)<|Rx Y (Qg (row := (List.map C44 (Vector.replicate 64 0).toList)) 2 Y Zgm Y tZ_46)<|Rx Y (Zm (ov Y) (ov Y) (Zy X8 arL) Y Y Y (ZaP (Zs arL) arL) (Zb<|arC fun _ => Y)<|Jl<|Eq.trans arL<|Eq.symm arL)<|Ra Y<|Za<|XU (kc 5 Y<|kc 6 Y<|kc 7 Y<|kc 9 Y<|kc 10 Y<|kc 13 Y<|kc 15 Y<|kc 22 Y<|kc 23 Y<|kc 24 Y<|kc 30 Y<|kc 31 Y<|kc 32 Y<|kc 47 Y<|kc 48 Y kn) Y<|Zq<|Rm Y<|Rm Y<|Rm Y<|Rm Y<|Rm Y<|Rq Y (QE (ov Y) Y Y Y X8 (QL<|Zs arL) arL (hns := (nsM fun _ => Y)))<|Rq Y (Zkw (zr := (.int .i64 0) :: (.int .i64 0) :: (.int .i64 0) :: (.int .i64 0) :: ((List.map C44 (Vector.replicate 64 0).toList) ++ ([]))) ZlS ZlL ZkW (by kernel_rfl) (.cons (cvs (ov Y)<|Zj Y)<|.cons (cvs (ov Y)<|Zj Y)<|.cons (cvs (ov Y)<|Zj Y)<|.cons (cvs (ov Y)<|Zj Y)<|.cons (cva<|ov Y) .nil)<|Zgb Y Y at1 pt2<|Zgb Y Y at3 pt4<|Zgb Y Y at5 pt6<|Zgb Y Y at7 pt8<|Zgb Y arL at9 ZmC ZlP)<|R_q (.sl 123<|List.map R123 ([(api_Kept.mk i x2 y3.1 i3 y6.1)] : List api_Kept)) Y (XX Zj1 (.cons (cva<|ov Y) Zde (pwD ZfC) .nil) Y Y)<|bE h fun l3 h_l3 h=>Rx Y (Xg (ov Y) (Qt (ov Y) tZ_123) Zj1 Y Y Y (fun x=>Zb<|ZmG x) Y h_l3)<|Ra Y<|Za<|XU (kc 5 Y<|kc 6 Y<|kc 7 Y<|kc 9 Y<|kc 10 Y<|kc 22 Y<|kc 23 Y<|kc 24 Y<|kc 30 Y<|kc 31 Y<|kc 32 Y<|kc 47 Y<|kc 48 Y kn) Y<|Zq<|R2 ZI Y<|Rm Y<|Za<|⟨_, h, ES [some 0, some 1]⟩
        ·
         exact Zh<|XU (kc 5 Y<|kc 6 Y<|kc 7 Y<|kc 9 Y<|kc 10 Y<|kc 22 Y<|kc 23 Y<|kc 24 Y<|kc 30 Y<|kc 31 Y<|kc 32 Y<|kc 47 Y<|kc 48 Y kn) Y<|Zq<|R2 ZI Y<|Rm Y<|Za<|⟨_, h, ES [some 0, some 1]⟩
       ·
        refine ZD<|?_
        replace h := lx h ▸ ho3
        exact ⟨_, h, ES [some 0, some 1]⟩
      ·
       exact Zq<|R2 ZI Y<|Rm Y<|Za<|⟨_, h, ES [some 0, some 1]⟩
     ·
      refine ZD<|?_
      replace h := lx h ▸ ho2
      exact ⟨_, h, ES [some 0]⟩
    ·
     exact Zq<|R2 ZI Y<|Rm Y<|Za<|⟨_, h, ES [some 0]⟩
   ·
    refine ZD<|?_
    replace h := lx h ▸ ho1
    exact ⟨_, h, ES [some 0]⟩
  ·
   refine Tr<|Rm Y<|Ra Y<|Ra Y<|Za<|?_
   obtain rfl := rt h
   exact Zn (ZN Y (.two (.tmp Y<|View.ownM Y Y D123)<|rb Y))
theorem Zkk {xs r : List Int} (h : Zg9 xs = some r) :
    GSpec Tryz.prog gl0 66 [.own 0 xs.length] [some ⟨3, List.map R3 xs⟩] (.tuple []) [some ⟨3, List.map R3 r⟩] :=
  ZkC (g := R3) (fun _ => rfl) (by kernel_rfl) tZ_3 (fun _ _ _ _ _ h1 h2 h3 => Any.slices_Sort_int Tryz.lays189 _ _ _ _ _ h1 h2 h3) (fun p c w => Any.slices_Sort_int_none Tryz.lays189 p c w) h
theorem Zhx {l : List api_Memory} {r : (List (Vector Int 64)) × Int} (h : Zcd l = some r) :
 CSpec Tryz.prog gl0 33 [.sl 59 (List.map R59 l)] (.tuple [.sl 46 (List.map R46 r.1), .int .i64 r.2]) := by
 unfold Zcd at h
 replace h := Z5 h
 refine So Tryz.func33 Y fun w0 A=>Tr<|Ra Y<|Ra Y<|Za<|K1 0 Y<|Tr<|Rm Y<|bE h fun y h_y h=>Rq Y (Zr (Zhf h_y)<|.cons (ov Y) (.b Y) .nil)<|Rm Y<|Rq Y (Zg (ov Y) Y)<|Rq Y (Zg (ov Y) Y)<|Ra Y<|Ra Y<|Za<|Zf<|K2 4 5 Y<|Tr<|Rm Y<|R2 Jf Y<|Za<|K3 4 5 23 Y<|If h Y (fun h=>?_) fun h=>?_
 ·
  refine K1 5 Y<|Tr<|Rm Y<|Ra Y<|Ra Y<|Za<|?_
  obtain rfl := rt h
  exact Zn (ZN Y (.two (.tmp Y<|View.nils 46)<|rb Y))
 ·
  refine Zh<|K1 4 Y<|Tr<|Rx Y (Zkf 0 Y ZiP)<|Ra Y<|Za<|K2 4 6 Y<|Tr<|Ra Y<|Za<|I2 (fun best numbers=>⟨[(6, .mref 0 1), (7, .own 1 numbers.length)], [some ⟨121, [[.mcon (List.map (Zax FK3 Zcx) best)]]⟩, some ⟨3, List.map R3 numbers⟩]⟩) h (fun h=>?_) fun best numbers h=>?_
  ·
   refine Tr<|Rm Y<|Rl tZ_123 Zj1 Y<|Rm Y<|Za<|Ze<|?_
   obtain ⟨r1, hl1, ho1⟩ := QP h
   refine L3 (fun best2 numbers2 i=>⟨[(6, .mref 0 1), (7, .own 1 numbers2.length), (26, .sl 123 (List.map R123 y.1)), (27, .int .i64 (y.1.length : Int)), (28, .int .i64 i)], [some ⟨121, [[.mcon (List.map (Zax FK3 Zcx) best2)]]⟩, some ⟨3, List.map R3 numbers2⟩]⟩) hl1 (ES [some 0, none] (hhp := .cons Y (Zgd (fk := FK3) (fv := Zcx) (m := ([] : List (Int × api_Kept))) tZ_121 (fun _=>.dat Y) fun _=>.ren<|Zey<|rld ZfC)<|.row 3 .nil)) fun n1 best2 numbers2 i h=>?_
   unfold Zbp at h
   refine Tr<|R2 ZJ Y<|Za<|Zf<|If h Y (fun h=>?_) fun h=>?_
   ·
    refine Zh<|Zf<|Ze<|K5 6 7 26 27 28 Y<|Tr<|bE h fun x h_x h=>Rq Y (Qo (ov Y) (ov Y) Zj1 h_x)<|Rq Y (Xp (ov Y) ZjV (QL<|Zs Zde) Zde)<|Rx Y (Qg (row := (.int .i64 0) :: (.int .i64 0) :: (.int .i64 0) :: (.int .i64 0) :: ((List.map C44 (Vector.replicate 64 0).toList) ++ ([]))) 2 Y ZkW (by kernel_rfl)<|by exact Eq.symm (Eq.trans (b := 68) Zde tZ_123.symm))<|Rx Y (Zm (ov Y) (ov Y) (Zy ZjV Zde) Y Y Y (ZaP (Zs Zde) Zde) (Zb Zmb)<|Jl<|Eq.trans Zde<|Eq.symm Zde)<|Za<|Zf<|K6 6 7 9 26 27 28 Y<|Tr<|Rq Y (Zl (ov Y) Y Y ZjK)<|Rq Y (QE (ov Y) Y Y Y X8 (QL at9) arL (hns := (nsM fun _ => Y)))<|bE h fun y2 h_y2 h=>Rq Y (Zr (ZeK h_y2)<|.cons (ov Y) (.aggB<|arD fun _ => Y) .nil)<|Rl tZ_133 ZgF Y<|R2 JR Y<|Za<|K7 6 7 9 26 27 28 36 Y<|If h Y (fun h=>?_) fun h=>?_
    ·
     exact ZD<|K5 6 7 26 27 28 Y<|Zq<|R2 ZI Y<|Rm Y<|Za<|⟨_, h, ES [some 0, some 1] (hhp := .cons Y (Zgd (fk := FK3) (fv := Zcx) (m := best2) tZ_121 (fun _=>.dat Y) fun _=>.ren<|Zey<|rld ZfC)<|.cons Y (roM D3) .nil)⟩
    ·
     refine Zh<|K6 6 7 9 26 27 28 Y<|Tr<|Rq Y (Zl (ov Y) Y Y ZjK)<|Rq Y (QE (ov Y) Y Y Y X8 (QL at9) arL (hns := (nsM fun _ => Y)))<|bE h fun y3 h_y3 h=>Rq Y (Zr (Zek h_y3)<|.cons (ov Y) (.aggB<|arD fun _ => Y) .nil)<|Rm Y<|Rq Y (Zg (ov Y) Y)<|Rq Y (Zg (ov Y) Y)<|Ra Y<|Ra Y<|Za<|K7 6 7 9 10 26 27 28 Y<|Tr<|Rm Y<|Rm Y<|bE h fun o h_o h=>Rq Y (Zmj (m := best2) (fk := FK3) (fv := Zcx) (k := y3.1) (z0 := (api_Kept.mk 0 0 0 0 (Vector.replicate 64 0))) (ov Y) (ov Y) ZiP Zma Y (fun _=>.b Y) (Zjo ZkD Y) (fun _ _=>Y) h_o)<|Rm Y<|Rq Y (Zg (ov Y) Y)<|Rq Y (Zg (ov Y) Y)<|Rx Y (Qg (row := (.int .i64 0) :: (.int .i64 0) :: (.int .i64 0) :: (.int .i64 0) :: ((List.map C44 (Vector.replicate 64 0).toList) ++ ([]))) 3 Y ZkW (by kernel_rfl)<|by exact Eq.symm (Eq.trans (b := 68) Zde tZ_123.symm))<|Rx Y (Zm (ov Y) (ov Y) (Zy ZjV Zde) Y Y Y (ZaP (Zs Zde) Zde) (Zb Zmb)<|Jl<|Eq.trans Zde<|Eq.symm Zde)<|Ra Y<|Za<|I1 (fun numbers3=>⟨[(6, .mref 0 1), (7, .own 1 numbers3.length), (9, .ptr 2 1 0 0), (10, .int .i64 y3.1), (12, .ptr 3 1 0 0), (13, .bool o.isSome), (26, .sl 123 (List.map R123 y.1)), (27, .int .i64 (y.1.length : Int)), (28, .int .i64 i)], [some ⟨121, [[.mcon (List.map (Zax FK3 Zcx) best2)]]⟩, some ⟨3, List.map R3 numbers3⟩, some ⟨123, [(.int .i64 x.Memory) :: (.int .i64 x.Sector) :: (.int .i64 x.Sequence) :: (.int .i64 x.Slot) :: ((List.map C44 x.Frame.toList) ++ ([]))]⟩, some ⟨123, [(.int .i64 ((o.getD (api_Kept.mk 0 0 0 0 (Vector.replicate 64 0))).Memory)) :: (.int .i64 ((o.getD (api_Kept.mk 0 0 0 0 (Vector.replicate 64 0))).Sector)) :: (.int .i64 ((o.getD (api_Kept.mk 0 0 0 0 (Vector.replicate 64 0))).Sequence)) :: (.int .i64 ((o.getD (api_Kept.mk 0 0 0 0 (Vector.replicate 64 0))).Slot)) :: ((List.map C44 ((o.getD (api_Kept.mk 0 0 0 0 (Vector.replicate 64 0))).Frame).toList) ++ ([]))]⟩]⟩) h (fun h=>?_) fun numbers3 h=>?_
     ·
      refine K9 6 7 9 10 12 13 26 27 28 Y<|Tr<|Rm Y<|R1 XW Y<|Za<|K10 6 7 9 10 12 13 26 27 28 50 Y<|If h Y (fun h=>?_) fun h=>?_
      ·
       exact K9 6 7 9 10 12 13 26 27 28 Y<|Zq<|Rm Y<|Rm Y<|R_q (.sl 3<|List.map R3 ([y3.1] : List Int)) Y (XX QK (.cons (cvs (ov Y)<|Zj Y) Y (.cons (.b Y) .nil) .nil) Y Y)<|bE h fun l2 h_l2 h=>Rx Y (Xg (ov Y) (Qt (ov Y) tZ_3) QK Y Y Y (fun _=>Zb Y) Y h_l2)<|Ra Y<|Za<|⟨_, h, ES [some 0, some 1, some 2, some 3] (hhp := .cons Y (Zgd (fk := FK3) (fv := Zcx) (m := best2) tZ_121 (fun _=>.dat Y) fun _=>.ren<|Zey<|rld ZfC)<|.cons Y (roM D3)<|.cons Y (ro1 (by exact Eq.trans (b := 68) Zde tZ_123.symm)<|rld ZfC)<|.cons Y (ro1 (by exact Eq.trans (b := 68) Zde tZ_123.symm)<|rld ZfC) .nil)⟩
      ·
       exact Zh<|⟨_, h, ES [some 0, some 1, some 2, some 3] (hhp := .cons Y (Zgd (fk := FK3) (fv := Zcx) (m := best2) tZ_121 (fun _=>.dat Y) fun _=>.ren<|Zey<|rld ZfC)<|.cons Y (roM D3)<|.cons Y (ro1 (by exact Eq.trans (b := 68) Zde tZ_123.symm)<|rld ZfC)<|.cons Y (ro1 (by exact Eq.trans (b := 68) Zde tZ_123.symm)<|rld ZfC) .nil)⟩
     ·
      refine Tr<|Rm Y<|R1 XW Y<|Rm Y<|Rq Y (.guarded ((!o.isSome) == false) Y Y Y Y fun h => Zl (ov Y) Y Y ZjT)<|Rq Y (.guarded ((!o.isSome) == false) Y Y Y Y fun h => Zt (ow Y h) Y Y Y tS3<|Qx at5)<|Rq Y (.guarded ((!o.isSome) == false) Y Y Y Y fun h => Zl (ov Y) Y Y ZjT)<|Rq Y (.guarded ((!o.isSome) == false) Y Y Y Y fun h => Zt (ow Y h) Y Y Y tS3<|Qx at5)<|Rq Y (.guarded ((!o.isSome) == false) Y Y Y Y fun h => JR (ow Y h)<|ow Y h)<|Rq Y (Zdw (ov Y) fun hp=>ow Y<|gF hp)<|Za<|K8 6 7 9 10 26 27 28 63 Y<|If h Y (fun h=>?_) fun h=>?_
      ·
       exact K7 6 7 9 10 26 27 28 Y<|Zq<|Rm Y<|Rm Y<|Rq Y (QE (ov Y) Y Y Y ZjV (QL<|Zs Zde) Zde (hns := ZmE))<|Rx Y (ZkI (m := best2) (fk := FK3) (fv := Zcx) (k := y3.1) (v := x) (ov Y) (ov Y) (ov Y) ZiP Zma Y fun _=>.b Y)<|Za<|K5 6 7 26 27 28 Y<|Zq<|R2 ZI Y<|Rm Y<|Za<|⟨_, h, ES [some 0, some 1] (hhp := .cons Y (Zgd (fk := FK3) (fv := Zcx) (m := (ZiY kqI best2 y3.1 x)) tZ_121 (fun _=>.dat Y) fun _=>.ren<|Zey<|rld ZfC)<|.cons Y (roM D3) .nil)⟩
      ·
       exact Zh<|K5 6 7 26 27 28 Y<|Zq<|R2 ZI Y<|Rm Y<|Za<|⟨_, h, ES [some 0, some 1] (hhp := .cons Y (Zgd (fk := FK3) (fv := Zcx) (m := best2) tZ_121 (fun _=>.dat Y) fun _=>.ren<|Zey<|rld ZfC)<|.cons Y (roM D3) .nil)⟩
   ·
    refine ZD<|?_
    replace h := lx h ▸ ho1
    exact ⟨_, h, ES [some 0, some 1] (hhp := .cons Y (Zgd (fk := FK3) (fv := Zcx) (m := best2) tZ_121 (fun _=>.dat Y) fun _=>.ren<|Zey<|rld ZfC)<|.cons Y (roM D3) .nil)⟩
  ·
   refine Tr<|Rm Y<|bE h fun y4 h_y4 h=>Rx Y (Zv [1] (Zkk h_y4) (.cons (ov Y) (.own _ Y) .nil) (.cons Y (roM D3) .nil) Y (.keep Y Y<|.lent 0 (.inl Y) Y (roM D3) .nil) Y Y<|Qr<|rld Y)<|Za<|K2 6 7 Y<|Tr<|Ra Y<|Za<|I1 (fun out=>⟨[(14, .own 0 out.length)], [some ⟨46, List.map R46 out⟩]⟩) h (fun h=>?_) fun out h=>?_
   ·
    refine Tr<|Rm Y<|Rq Y (Zd2 (ov Y) Y (Zh3 h_y4) QK)<|Rm Y<|Za<|Ze<|?_
    obtain ⟨r2, hl2, ho2⟩ := QP h
    refine L2 (fun out2 i2=>⟨[(6, .mref 0 1), (14, .own 1 out2.length), (70, .own 2 y4.length), (71, .int .i64 (y4.length : Int)), (72, .int .i64 i2)], [some ⟨121, [[.mcon (List.map (Zax FK3 Zcx) best)]]⟩, some ⟨46, List.map R46 out2⟩, some ⟨3, List.map R3 y4⟩]⟩) hl2 (Ent.sel [some 0, none, some 1] (sr 6 Y (.mref _ Y)<|sr 14 Y (.row Y)<|sr 70 Y (Zcu (Eq.symm<|Zh3 h_y4) Y)<|sd 71 Y Y<|sd 72 Y Y sn) (.cons Y (Zgd (fk := FK3) (fv := Zcx) (m := best) tZ_121 (fun _=>.dat Y) fun _=>.ren<|Zey<|rld ZfC)<|.row 46<|.cons Y (roM D3) .nil) Y Y) fun n2 out2 i2 h=>?_
    unfold ZbA at h
    refine Tr<|R2 ZJ Y<|Za<|Zf<|If h Y (fun h=>?_) fun h=>?_
    ·
     exact Zh<|Zf<|Ze<|K5 6 14 70 71 72 Y<|Tr<|bE h fun x2 h_x2 h=>Rq Y (ZY (ov Y) (ov Y) QK Y Y h_x2)<|Rq Y (ZU (ov Y) Y Y h_x2 tS3 Y)<|Ra Y<|Za<|K6 6 14 16 70 71 72 Y<|Zq<|Rm Y<|Rm Y<|Rm Y<|bE h fun o2 h_o2 h=>Rq Y (Zmi (m := best) (fk := FK3) (fv := Zcx) (k := x2) (z0 := (api_Kept.mk 0 0 0 0 (Vector.replicate 64 0))) (ov Y) (ov Y) ZiP Zma Y (fun _=>.b Y) (Zjo ZkD Y) (fun _ _=>Y) h_o2)<|Rq Y (Zks (ov Y) ZkT at9)<|R_q (.sl 46<|List.map R46 ([o2.Frame] : List (Vector Int 64))) Y (XX Zly (.cons (cva<|ov Y) arL (pwD<|arD fun _ => Y) .nil) Y Y)<|bE h fun l3 h_l3 h=>Rx Y (Xg (ov Y) (Qt (ov Y) tZ_46) Zly Y Y Y (fun x=>Zb<|E46 x) Y h_l3)<|Ra Y<|Za<|K5 6 14 70 71 72 Y<|Zq<|R2 ZI Y<|Rm Y<|Za<|⟨_, h, ES [some 0, some 1, some 2] (hhp := .cons Y (Zgd (fk := FK3) (fv := Zcx) (m := best) tZ_121 (fun _=>.dat Y) fun _=>.ren<|Zey<|rld ZfC)<|.cons Y (roM D46)<|.cons Y (roM D3) .nil)⟩
    ·
     refine ZD<|?_
     replace h := lx h ▸ ho2
     exact ⟨_, h, ES [some 1]⟩
   ·
    refine Tr<|Rm Y<|Ra Y<|Ra Y<|Za<|?_
    obtain rfl := rt h
    exact Zn (ZN Y (.two (.tmp Y<|View.ownM Y Y D46)<|rb Y))
theorem ZiC  {r : Bool} (h : ZcO  = some r) :
 CSpec Tryz.prog gl0 12 [] (.bool r) := by
 unfold ZcO at h
 replace h := Z5 h
 refine So Tryz.func12 Y fun w0 A=>Tr<|Ra Y<|Za<|K0<|Tr<|bE h fun l h_l h=>Rx Y (Zab [none] (r := 0) (f := R3) (z0 := 0) Y (ov Y) (ov Y) QK Y tZ3 Y Y h_l)<|bE h fun y h_y h=>Rq Y (J3 (Zjb h_y) (.tuple<|by simp only [List.mem_cons, List.not_mem_nil, or_false, forall_eq_or_imp, forall_eq]; exact ⟨(Zjl (fun _ => .int)), .int⟩)<|.cons (ov Y) (Dat.view<|.b Y)<|.cons (ov Y) (View.ownM Y Y D3) .nil)<|Rm Y<|Rq Y (Zg (ov Y) Y)<|Rq Y (Zg (ov Y) Y)<|Rx Y (Qg (row := (List.map C44 (Vector.replicate 64 0).toList)) 1 Y Zgm Y tZ_46)<|Rx Y (Zm (ov Y) (ov Y) (Zy X8 arL) Y Y Y (ZaP (Zs arL) arL) (Zb<|arC fun _ => Y)<|Jl<|Eq.trans arL<|Eq.symm arL)<|Ra Y<|Za<|K1 1 Y<|Tr<|bE h fun y2 h_y2 h=>Rq Y (Zr (Zgh h_y2)<|.cons (ov Y) (.b Y)<|.cons (ov Y) (.b Y)<|.cons (ov Y) (.b Y) .nil)<|Rm Y<|Rq Y (Zg (ov Y) Y)<|Rq Y (Zg (ov Y) Y)<|Rx Y (Qg (row := [_, _, _, _, _]) 2 Y Zdx Y tZ_59)<|Rx Y (Zm (ov Y) (ov Y) (Zy Jt Y) Y Y Y (Nat.le_of_ble_eq_true Y) (Zb Y) Y)<|Ra Y<|Za<|Zf<|K3 1 3 4 Y<|Tr<|Rm Y<|R2 Jf Y<|Za<|K3 1 3 20 Y<|If h Y (fun h=>?_) fun h=>?_
 ·
  refine K0<|Tr<|Ra Y<|Za<|?_
  obtain rfl := rt h
  exact Zn (ZN Y (.one<|rb Y))
 ·
  refine Zh<|K2 1 3 Y<|Tr<|Rq Y (QE (ov Y) Y Y Y Jt Y Y)<|R_q (.sl 59<|List.map R59 ([y2.1] : List api_Memory)) Y (XX ZcU (.cons (cva<|ov Y) Y (pwD Y) .nil) Y Y)<|bE h fun y3 h_y3 h=>?_
  rcases y3 with y3 | y3
  ·
   replace h := ell h
   refine Rx Y (Zv [] (Zfg h_y3) (.cons (ov Y) (.dat Y)<|.cons (ov Y) (.dat Y) .nil) .nil Y (.keep Y Y<|.keep Y Y<|.keep Y Y .nil) Y Y<|Qr<|rlc (.dat Y)<|rlc (.dat Y) rln)<|Rm Y<|Rq Y (Zg (ov Y) Y)<|Rq Y (Zg (ov Y) Y)<|Ra Y<|Ra Y<|Za<|Zf<|K3 1 4 5 Y<|Tr<|Rm Y<|R2 Jf Y<|Za<|K3 1 5 28 Y<|If h Y (fun h=>?_) fun h=>?_
   ·
    refine K0<|Tr<|Ra Y<|Za<|?_
    obtain rfl := rt h
    exact Zn (ZN Y (.one<|rb Y))
   ·
    exact Zh<|(Zk0 h).elim
  ·
   replace h := elr h
   refine Rx Y (Zv [] (Ze8 h_y3) (.cons (ov Y) (.dat Y)<|.cons (ov Y) (.dat Y) .nil) .nil Y (.keep Y Y<|.keep Y Y<|.keep Y Y<|.lent 0 (.inr ⟨Nat.le_of_ble_eq_true Y, Y⟩) Y (ro1 (by exact tZ_80.symm)<|rlc (.own _<|.inr ⟨Nat.le_of_ble_eq_true Y, Y⟩)<|rlc (.own _<|.inr ⟨Nat.le_of_ble_eq_true Y, Y⟩)<|rlc (.dat Y)<|rlc (.dat Y)<|rlc (.dat Y)<|rlc (.dat Y)<|rlc (.dat Y) rln)<|.lent 1 (.inr ⟨Nat.le_of_ble_eq_true Y, Y⟩) Y (roO XC)<|.lent 2 (.inr ⟨Nat.le_of_ble_eq_true Y, Y⟩) Y (roM D83) .nil) Y Y<|Qr<|rlc (.ptr _ _ _<|.inr ⟨Nat.le_of_ble_eq_true Y, Y⟩)<|rlc (.dat Y) rln)<|Rm Y<|Rq Y (Zg (ov Y) Y)<|Rq Y (Zg (ov Y) Y)<|Ra Y<|Ra Y<|Za<|Zf<|K3 1 4 5 Y<|Xa [some ⟨3, List.map R3 l⟩, some ⟨46, [(List.map C44 y.1.toList)]⟩, some ⟨59, [[.int .i64 y2.1.Slots, .int .i64 y2.1.Limit, .sl 22 (List.map R22 y2.1.Sectors), .sl 3 (List.map R3 y2.1.Wear), .sl 4 (List.map R4 y2.1.Bad)]]⟩, some ⟨80, [[.own 4 y3.1.bank.memories.length, .own 5 y3.1.bank.spots.length, .int .i64 y3.1.copies, .bool y3.1.frozen, .bool y3.1.stopped, .int .i64 y3.1.last, .bool y3.1.some_]]⟩, some ⟨59, List.map O59 y3.1.bank.memories⟩, some ⟨83, List.map R83 y3.1.bank.spots⟩] Y<|Tr<|Rm Y<|R2 Jf Y<|Za<|K3 1 5 28 Y<|If h Y (fun h=>?_) fun h=>?_
   ·
    refine K0<|Tr<|Ra Y<|Za<|?_
    obtain rfl := rt h
    exact Zn (ZN Y (.one<|rb Y))
   ·
    refine Zh<|K2 1 5 Y<|Tr<|Rm Y<|Rq Y (QE (ov Y) Y Y Y X8 (QL<|Zs arL) arL (hns := (nsM fun _ => Y)))<|bE h fun y4 h_y4 h=>Rx Y (Zv [3, 4, 5] (Zdb h_y4) (.cons (ov Y) (.ptr _ _ _ Y)<|.cons (ov Y) (Zey<|rld<|arD fun _ => Y)<|.cons (ov Y) (.dat Y) .nil) (.cons Y (ro1 (by exact tZ_80.symm)<|rlc (.own _ Y)<|rlc (.own _ Y)<|rlc (.dat Y)<|rlc (.dat Y)<|rlc (.dat Y)<|rlc (.dat Y)<|rlc (.dat Y) rln)<|.cons Y (roO XC)<|.cons Y (roM D83) .nil) Y (.keep Y Y<|.keep Y Y<|.keep Y Y<|.lent 0 (.inl Y) Y (ro1 (by exact tZ_80.symm)<|rlc (.own _<|.inr ⟨Nat.le_of_ble_eq_true Y, Y⟩)<|rlc (.own _<|.inr ⟨Nat.le_of_ble_eq_true Y, Y⟩)<|rlc (.dat Y)<|rlc (.dat Y)<|rlc (.dat Y)<|rlc (.dat Y)<|rlc (.dat Y) rln)<|.none<|.none<|.lent 3 (.inr ⟨Nat.le_of_ble_eq_true Y, Y⟩) Y (roO XC)<|.lent 4 (.inr ⟨Nat.le_of_ble_eq_true Y, Y⟩) Y (roM D83) .nil) Y Y<|Qr<|rld Y)<|Rm Y<|Rq Y (Zg (ov Y) Y)<|Rq Y (Zg (ov Y) Y)<|Rq Y (Zg (ov Y) Y)<|Ra Y<|Ra Y<|Ra Y<|Za<|K5 1 4 5 6 7 Y<|Xa [some ⟨3, List.map R3 l⟩, some ⟨46, [(List.map C44 y.1.toList)]⟩, some ⟨59, [[.int .i64 y2.1.Slots, .int .i64 y2.1.Limit, .sl 22 (List.map R22 y2.1.Sectors), .sl 3 (List.map R3 y2.1.Wear), .sl 4 (List.map R4 y2.1.Bad)]]⟩, some ⟨80, [[.own 6 y4.2.2.2.bank.memories.length, .own 7 y4.2.2.2.bank.spots.length, .int .i64 y4.2.2.2.copies, .bool y4.2.2.2.frozen, .bool y4.2.2.2.stopped, .int .i64 y4.2.2.2.last, .bool y4.2.2.2.some_]]⟩, none, none, some ⟨59, List.map O59 y4.2.2.2.bank.memories⟩, some ⟨83, List.map R83 y4.2.2.2.bank.spots⟩] Y<|Tr<|Rm Y<|bE h fun y5 h_y5 h=>Rx Y (Zv [3, 6, 7] (ZcG h_y5) (.cons (ov Y) (.ptr _ _ _ Y) .nil) (.cons Y (ro1 (by exact tZ_80.symm)<|rlc (.own _ Y)<|rlc (.own _ Y)<|rlc (.dat Y)<|rlc (.dat Y)<|rlc (.dat Y)<|rlc (.dat Y)<|rlc (.dat Y) rln)<|.cons Y (roO XC)<|.cons Y (roM D83) .nil) Y (.keep Y Y<|.keep Y Y<|.keep Y Y<|.lent 0 (.inl Y) Y (ro1 (by exact tZ_80.symm)<|rlc (.dat Y)<|rlc (.own _<|.inr ⟨Nat.le_of_ble_eq_true Y, Y⟩)<|rlc (.dat Y)<|rlc (.dat Y)<|rlc (.dat Y)<|rlc (.dat Y)<|rlc (.dat Y) rln)<|.none<|.none<|.none<|.none<|.lent 3 (.inr ⟨Nat.le_of_ble_eq_true Y, Y⟩) Y (roM D83) .nil) Y Y<|.dat Y)<|bE h fun y6 h_y6 h=>Rq Y (Zr (Zhx h_y6)<|.cons (ov Y) (.b Y) .nil)<|Rm Y<|Rq Y (Zg (ov Y) Y)<|Rq Y (Zg (ov Y) Y)<|Ra Y<|Ra Y<|Za<|Zf<|K6 1 4 6 7 8 9 Y<|Qm (cw := md0) (by kernel_rfl)<|D1 0 Zc Y<|D2 1 JG Y<|D1 2 Zc Y<|Dq 3 Y (.guarded ((decide (y4.1 = 1)) == true) Y Y Y Y fun h => Zc<|ov Y)<|Dq 4 Y (Zai (ov Y) fun hp=>ow Y<|gT hp)<|D1 5 Zc Y<|Dq 6 Y (.guarded (((decide (y4.1 = 1)) && y4.2.1) == true) Y Y Y Y fun h => Zc<|ov Y)<|Dq 7 Y (.guarded (((decide (y4.1 = 1)) && y4.2.1) == true) Y Y Y Y fun h => JG (ow Y h)<|ov Y)<|Dq 8 Y (Zai (ov Y) fun hp=>ow Y<|gT hp)<|D1 9 Zc Y<|Dq 10 Y (.guarded ((((decide (y4.1 = 1)) && y4.2.1) && (decide (y4.2.2.1 = 0))) == true) Y Y Y Y fun h => Zc<|ov Y)<|Dq 11 Y (.guarded ((((decide (y4.1 = 1)) && y4.2.1) && (decide (y4.2.2.1 = 0))) == true) Y Y Y Y fun h => JG (ow Y h)<|ov Y)<|Dq 12 Y (Zai (ov Y) fun hp=>ow Y<|gT hp)<|D1 13 Zc Y<|Dq 14 Y (.guarded (((((decide (y4.1 = 1)) && y4.2.1) && (decide (y4.2.2.1 = 0))) && (decide (y6.2 = 0))) == true) Y Y Y Y fun h => Zc<|ov Y)<|Dq 15 Y (.guarded (((((decide (y4.1 = 1)) && y4.2.1) && (decide (y4.2.2.1 = 0))) && (decide (y6.2 = 0))) == true) Y Y Y Y fun h => Zgo (Qt (ow Y h) tZ_46) Zly<|ZcD _ _)<|Dq 16 Y (.guarded (((((decide (y4.1 = 1)) && y4.2.1) && (decide (y4.2.2.1 = 0))) && (decide (y6.2 = 0))) == true) Y Y Y Y fun h => JG (ow Y h)<|ov Y)<|Dq 17 Y (Zai (ov Y) fun hp=>ow Y<|gT hp)<|D1 18 Zc Y<|Dq 19 Y (.guarded ((((((decide (y4.1 = 1)) && y4.2.1) && (decide (y4.2.2.1 = 0))) && (decide (y6.2 = 0))) && (decide ((y6.1.length : Int) = 1))) == true) Y Y Y Y fun h => Zc<|ov Y)<|bE h fun x h_x h=>Dq 20 Y (.guarded ((((((decide (y4.1 = 1)) && y4.2.1) && (decide (y4.2.2.1 = 0))) && (decide (y6.2 = 0))) && (decide ((y6.1.length : Int) = 1))) == true) Y Y Y Y fun h => Qo (ow Y h) (ov Y) Zly<|gdT h_x h)<|Dq 21 Y (.guarded ((((((decide (y4.1 = 1)) && y4.2.1) && (decide (y4.2.2.1 = 0))) && (decide (y6.2 = 0))) && (decide ((y6.1.length : Int) = 1))) == true) Y Y Y Y fun h => Xp (ow Y h) X8 (QL<|Zs arL) arL)<|Dq 22 Y (.guarded ((((((decide (y4.1 = 1)) && y4.2.1) && (decide (y4.2.2.1 = 0))) && (decide (y6.2 = 0))) && (decide ((y6.1.length : Int) = 1))) == true) Y Y Y Y fun h => QE (ov Y) Y Y Y X8 (QL<|Zs arL) arL (hns := (nsM fun _ => Y)))<|Dq 23 Y (.guarded ((((((decide (y4.1 = 1)) && y4.2.1) && (decide (y4.2.2.1 = 0))) && (decide (y6.2 = 0))) && (decide ((y6.1.length : Int) = 1))) == true) Y Y Y Y fun h => Zl1 Zml (ow Y h) (ow Y h) (.aggB<|arD fun _ => Y) (.aggB<|arD fun _ => Y) (fkV fun _ => Y) (fkV fun _ => Y)<|eqV fun _ _ => Y)<|Dq 24 Y (Zai (ov Y) fun hp=>ow Y<|gT hp)<|D1 25 Qh Y<|Dd<|?_
    obtain rfl := rt h
    exact Zn (ZN Y (.one<|rb Y))
theorem Zc0 {s : List Int} {at_ : Int} {data : List Int} {power : Int} {r : Bool} (h : Xf s at_ data power = some r) :
 CSpec Tryz.prog gl0 3 [.sl 5 (List.map R5 s), .int .i64 at_, .sl 5 (List.map R5 data), .int .i64 power] (.bool r) := by
 unfold Xf at h
 replace h := Z5 h
 refine So Tryz.func3 Y fun w0 A=>Tr<|Ra Y<|Za<|K4 0 1 2 3 Y<|Tr<|Rm Y<|bE h fun y h_y h=>?_
 have h_yz := Ze0 h_y
 refine Rx Y (Zv [] (ZdM h_y) (.cons (ov Y) (.dat Y) .nil) .nil Y (.lent 0 (.inr ⟨Nat.le_of_ble_eq_true Y, Y⟩) Y (roM D5) .nil) Y Y<|Qr<|rlc (.own _<|.inr ⟨Nat.le_of_ble_eq_true Y, Y⟩)<|rlc (.osl _ _ _<|.inr ⟨Nat.le_of_ble_eq_true Y, Y⟩) rln)<|Rm Y<|Rq Y (Zg (ov Y) Y)<|Rq Y (Zg (ov Y) Y)<|Ra Y<|Ra Y<|Za<|K6 0 1 2 3 9 10 Y<|Tr<|Rm Y<|Rm Y<|Rm Y<|Rm Y<|bE h fun y2 h_y2 h=>Rx Y (Zv [0] (Zfk (Zlv (by first | rfl | exact rfl) h_yz) h_y2) (.cons (ov Y) (.osl _ _ _ Y)<|.cons (ov Y) (.dat Y)<|.cons (ov Y) (.dat Y)<|.cons (ov Y) (.dat Y) .nil) (.cons Y (roM D5) .nil) Y (.lent 0 (.inl Y) Y (roM D5) .nil) Y Y<|Qr<|rld Y)<|Rm Y<|Rq Y (Zg (ov Y) Y)<|Rq Y (Zg (ov Y) Y)<|Rq Y (Zg (ov Y) Y)<|Ra Y<|Ra Y<|Ra Y<|Za<|K9 0 1 2 3 9 10 11 12 13 Y<|Tr<|Rm Y<|Rm Y<|Rm Y<|Rm Y<|bE h fun y3 h_y3 h=>Rq Y (Zr (ZgK h_y3)<|.cons (ov Y) (.b Y)<|.cons (ov Y) (.b Y)<|.cons (ov Y) (.b Y)<|.cons (ov Y) (.b Y) .nil)<|Rm Y<|Rq Y (Zg (ov Y) Y)<|Rq Y (Zg (ov Y) Y)<|Rq Y (Zg (ov Y) Y)<|Rq Y (Zg (ov Y) Y)<|Ra Y<|Ra Y<|Ra Y<|Ra Y<|Za<|Zf<|K11 0 3 9 10 11 12 13 14 15 16 17 Y<|Tr<|Rm Y<|Rm Y<|R2 Jf Y<|Rm Y<|Rq Y (.guarded ((!decide (y2.1 = y3.2.1)) == false) Y Y Y Y fun h => Zc<|ov Y)<|Rq Y (.guarded ((!decide (y2.1 = y3.2.1)) == false) Y Y Y Y fun h => Zc<|ov Y)<|Rq Y (.guarded ((!decide (y2.1 = y3.2.1)) == false) Y Y Y Y fun h => ZhT .neq (by simp) (ow Y h) (ow Y h) tB4)<|Rq Y (Zdw (ov Y) fun hp=>ow Y<|gF hp)<|Rm Y<|Rq Y (.guarded (((!decide (y2.1 = y3.2.1)) || (!(y2.2.1 == y3.2.2.1))) == false) Y Y Y Y fun h => Zc<|ov Y)<|Rq Y (.guarded (((!decide (y2.1 = y3.2.1)) || (!(y2.2.1 == y3.2.2.1))) == false) Y Y Y Y fun h => Zc<|ov Y)<|Rq Y (.guarded (((!decide (y2.1 = y3.2.1)) || (!(y2.2.1 == y3.2.2.1))) == false) Y Y Y Y fun h => Jf (ow Y h)<|ow Y h)<|Rq Y (Zdw (ov Y) fun hp=>ow Y<|gF hp)<|Rm Y<|Rq Y (.guarded ((((!decide (y2.1 = y3.2.1)) || (!(y2.2.1 == y3.2.2.1))) || (!decide (y2.2.2.1 = y3.2.2.2))) == false) Y Y Y Y fun h => Zc<|ov Y)<|Rq Y (.guarded ((((!decide (y2.1 = y3.2.1)) || (!(y2.2.1 == y3.2.2.1))) || (!decide (y2.2.2.1 = y3.2.2.2))) == false) Y Y Y Y fun h => Zc<|ov Y)<|bE h fun y4 h_y4 h=>Rq Y (.guarded ((((!decide (y2.1 = y3.2.1)) || (!(y2.2.1 == y3.2.2.1))) || (!decide (y2.2.2.1 = y3.2.2.2))) == false) Y Y Y Y fun h => J3 (Zbi<|gdT h_y4 h) .bool<|.cons (ow Y h) (View.oslM Y (Zam h_y2) (by have h1 := ZgP h_yz; have h2 := (Zam h_y2); omega) D5 tZ_5)<|.cons (ow Y h) (Dat.view<|.b Y) .nil)<|Rq Y (.guarded ((((!decide (y2.1 = y3.2.1)) || (!(y2.2.1 == y3.2.2.1))) || (!decide (y2.2.2.1 = y3.2.2.2))) == false) Y Y Y Y fun h => XW<|ow Y h)<|Rq Y (Zdw (ov Y) fun hp=>ow Y<|gF hp)<|Rm Y<|Rq Y (.guarded (((((!decide (y2.1 = y3.2.1)) || (!(y2.2.1 == y3.2.2.1))) || (!decide (y2.2.2.1 = y3.2.2.2))) || (!y4)) == false) Y Y Y Y fun h => Zc<|ov Y)<|bE h fun y5 h_y5 h=>Rq Y (.guarded (((((!decide (y2.1 = y3.2.1)) || (!(y2.2.1 == y3.2.2.1))) || (!decide (y2.2.2.1 = y3.2.2.2))) || (!y4)) == false) Y Y Y Y fun h => J3 (ZeL<|gdT h_y5 h) .bool<|.cons (ow Y h) (View.ownM Y (Zam h_y2) D5) .nil)<|Rq Y (.guarded (((((!decide (y2.1 = y3.2.1)) || (!(y2.2.1 == y3.2.2.1))) || (!decide (y2.2.2.1 = y3.2.2.2))) || (!y4)) == false) Y Y Y Y fun h => XW<|ow Y h)<|Rq Y (Zdw (ov Y) fun hp=>ow Y<|gF hp)<|Za<|K3 0 3 65 Y<|If h Y (fun h=>?_) fun h=>?_
 ·
  refine K0<|Tr<|Ra Y<|Za<|?_
  obtain rfl := rt h
  exact Zn (ZN Y (.one<|rb Y))
 ·
  refine Zh<|K2 0 3 Y<|Tr<|Rm Y<|bE h fun y6 h_y6 h=>?_
  have h_y6z := Ze0 h_y6
  refine Rx Y (Zv [] (ZdM h_y6) (.cons (ov Y) (.dat Y) .nil) .nil Y (.keep Y Y<|.lent 0 (.inr ⟨Nat.le_of_ble_eq_true Y, Y⟩) Y (roM D5) .nil) Y Y<|Qr<|rlc (.own _<|.inr ⟨Nat.le_of_ble_eq_true Y, Y⟩)<|rlc (.osl _ _ _<|.inr ⟨Nat.le_of_ble_eq_true Y, Y⟩) rln)<|Rm Y<|Rq Y (Zg (ov Y) Y)<|Rq Y (Zg (ov Y) Y)<|Ra Y<|Ra Y<|Za<|K4 0 3 9 10 Y<|Tr<|Rm Y<|Rm Y<|bE h fun y7 h_y7 h=>Rx Y (Zv [1] (ZdY (Zlv (by first | rfl | exact rfl) h_y6z) h_y7) (.cons (ov Y) (.osl _ _ _ Y)<|.cons (ov Y) (.dat Y) .nil) (.cons Y (roM D5) .nil) Y (.keep Y Y<|.lent 0 (.inl Y) Y (roM D5) .nil) Y Y<|Qr<|rld Y)<|Rm Y<|Rq Y (Zg (ov Y) Y)<|Rq Y (Zg (ov Y) Y)<|Rq Y (Zg (ov Y) Y)<|Ra Y<|Ra Y<|Ra Y<|Za<|K7 0 3 9 10 11 12 13 Y<|Tr<|Rm Y<|Rm Y<|bE h fun y8 h_y8 h=>Rq Y (Zr (Zfp h_y8)<|.cons (ov Y) (.b Y)<|.cons (ov Y) (.b Y) .nil)<|Rm Y<|Rq Y (Zg (ov Y) Y)<|Rq Y (Zg (ov Y) Y)<|Rq Y (Zg (ov Y) Y)<|Rq Y (Zg (ov Y) Y)<|Ra Y<|Ra Y<|Ra Y<|Ra Y<|Za<|K9 9 10 11 12 13 14 15 16 17 Y<|Tr<|Rm Y<|Rm Y<|R2 JG Y<|Rm Y<|Rq Y (.guarded ((decide (y7.1 = y8.2.1)) == true) Y Y Y Y fun h => Zc<|ov Y)<|Rq Y (.guarded ((decide (y7.1 = y8.2.1)) == true) Y Y Y Y fun h => Zc<|ov Y)<|Rq Y (.guarded ((decide (y7.1 = y8.2.1)) == true) Y Y Y Y fun h => ZhT .eql (by simp) (ow Y h) (ow Y h) tB4)<|Rq Y (Zai (ov Y) fun hp=>ow Y<|gT hp)<|Rm Y<|Rq Y (.guarded (((decide (y7.1 = y8.2.1)) && (y7.2.1 == y8.2.2.1)) == true) Y Y Y Y fun h => Zc<|ov Y)<|Rq Y (.guarded (((decide (y7.1 = y8.2.1)) && (y7.2.1 == y8.2.2.1)) == true) Y Y Y Y fun h => Zc<|ov Y)<|Rq Y (.guarded (((decide (y7.1 = y8.2.1)) && (y7.2.1 == y8.2.2.1)) == true) Y Y Y Y fun h => JG (ow Y h)<|ow Y h)<|Rq Y (Zai (ov Y) fun hp=>ow Y<|gT hp)<|Rm Y<|Rq Y (.guarded ((((decide (y7.1 = y8.2.1)) && (y7.2.1 == y8.2.2.1)) && (decide (y7.2.2.1 = y8.2.2.2))) == true) Y Y Y Y fun h => Zc<|ov Y)<|Rq Y (.guarded ((((decide (y7.1 = y8.2.1)) && (y7.2.1 == y8.2.2.1)) && (decide (y7.2.2.1 = y8.2.2.2))) == true) Y Y Y Y fun h => Zc<|ov Y)<|bE h fun y9 h_y9 h=>Rq Y (.guarded ((((decide (y7.1 = y8.2.1)) && (y7.2.1 == y8.2.2.1)) && (decide (y7.2.2.1 = y8.2.2.2))) == true) Y Y Y Y fun h => J3 (Zbi<|gdT h_y9 h) .bool<|.cons (ow Y h) (View.oslM Y (Jm h_y7) (by have h1 := ZgP h_y6z; have h2 := (Jm h_y7); omega) D5 tZ_5)<|.cons (ow Y h) (Dat.view<|.b Y) .nil)<|Rq Y (Zai (ov Y) fun hp=>ow Y<|gT hp)<|Rm Y<|Rq Y (.guarded (((((decide (y7.1 = y8.2.1)) && (y7.2.1 == y8.2.2.1)) && (decide (y7.2.2.1 = y8.2.2.2))) && y9) == true) Y Y Y Y fun h => Zc<|ov Y)<|bE h fun y10 h_y10 h=>Rq Y (.guarded (((((decide (y7.1 = y8.2.1)) && (y7.2.1 == y8.2.2.1)) && (decide (y7.2.2.1 = y8.2.2.2))) && y9) == true) Y Y Y Y fun h => J3 (ZeL<|gdT h_y10 h) .bool<|.cons (ow Y h) (View.ownM Y (Jm h_y7) D5) .nil)<|Rq Y (Zai (ov Y) fun hp=>ow Y<|gT hp)<|Rm Y<|bE h fun y11 h_y11 h=>Rq Y (.guarded ((((((decide (y7.1 = y8.2.1)) && (y7.2.1 == y8.2.2.1)) && (decide (y7.2.2.1 = y8.2.2.2))) && y9) && y10) == true) Y Y Y Y fun h => Zr (ZiC<|gdT h_y11 h) .nil)<|Rq Y (Zai (ov Y) fun hp=>ow Y<|gT hp)<|Ra Y<|Za<|?_
  obtain rfl := rt h
  exact Zn (ZN Y (.one<|rb Y))
end Go.Proofs.YtgohgnaapbpggaaGreatDoor
