/- A text of the proof: a verified executor of the program form, or the contracts of the functions that the law reaches. -/
import Derived.Test.YtjfoenlooacoiabGreatDoorOkPc
set_option linter.all false
namespace Go.Proofs.YtjfoenlooacoiabGreatDoor
open Go Go.Vx
set_option maxRecDepth 10000
set_option maxHeartbeats 1000000
set_option linter.unusedVariables false
theorem J7 {r_ : ring_Recorder} {r : (List api_Memory)} (h : QH r_ = some r) :
 GSpec Tryz.prog gl0 16 [.ptr 0 1 0 0] [some ⟨75, [[.own 1 r_.bank.memories.length, .own 2 r_.bank.spots.length, .int .i64 r_.copies, .bool r_.frozen, .bool r_.stopped, .int .i64 r_.last, .bool r_.some_]]⟩, some ⟨55, List.map O55 r_.bank.memories⟩, some ⟨78, List.map R78 r_.bank.spots⟩] (.sl 55 (List.map R55 r)) [some ⟨75, [[.sl 55 (List.map R55 r_.bank.memories), .own 3 r_.bank.spots.length, .int .i64 r_.copies, .bool r_.frozen, .bool r_.stopped, .int .i64 r_.last, .bool r_.some_]]⟩, none, none, some ⟨78, List.map R78 r_.bank.spots⟩] := by
 unfold QH at h
 replace h := Qo h
 refine QQ (by kernel_rfl) Tryz.func16 Y Y<|?_
 intro w0 A W φ0
 refine ZeV (Ent.sel [some 0, some 1, some 2, some 1, some 2] (sr 0 Y (.ptr (r' := 0) _ _ _ Y) sn) (.cons Y (ro1 (by exact tZ_75.symm)<|rlc (.own (r' := 3) _ Y)<|rlc (.own (r' := 4) _ Y)<|rlc (.dat Y)<|rlc (.dat Y)<|rlc (.dat Y)<|rlc (.dat Y)<|rlc (.dat Y) rln)<|.dead<|.dead<|.cons Y (roO Xj)<|.cons Y (roM D78) .nil) Y Y)<|QZ [some ⟨75, [[.own 3 r_.bank.memories.length, .own 4 r_.bank.spots.length, .int .i64 r_.copies, .bool r_.frozen, .bool r_.stopped, .int .i64 r_.last, .bool r_.some_]]⟩, none, none, some ⟨55, List.map O55 r_.bank.memories⟩, some ⟨78, List.map R78 r_.bank.spots⟩] Y<|Tr<|Ra Y<|Za<|Tr<|Rm Y<|Rq Y (Zq (ov Y) Y Y)<|Rq Y (Zr (ov Y) Y Y Zd9)<|Rq Y (Zr (ov Y) Y Y ZdH)<|Rq Y (ZV (ov Y) Y Y Y ZiQ Y)<|bE h fun y h_y h=>Xg (Ent.meltO (r := 3) Y Xj (fun x=>(D55 x).1) Zj2)<|Xg (Ent.sel [some 0, some 1, some 2, none, some 4] (sr 0 Y (.ptr (r' := 0) _ _ _ Y)<|sd 2 Y Y<|sr 3 Y (.ptr (r' := 0) _ _ _ Y)<|sr 4 Y (.ptr (r' := 0) _ _ _ Y)<|sr 5 Y (.ptr (r' := 0) _ _ _ Y)<|sr 6 Y (.ptr (r' := 0) _ _ _ Y)<|sr 7 Y (ZpM Y Y Y D55) sn) (.cons Y (ro1 (by exact tZ_75.symm)<|rlc (ZpM Y Y Y D55)<|rlc (.own (r' := 4) _ Y)<|rlc (.dat Y)<|rlc (.dat Y)<|rlc (.dat Y)<|rlc (.dat Y)<|rlc (.dat Y) rln)<|.dead<|.dead<|.row 55<|.cons Y (roM D78) .nil) Y Y)<|Rq Y (Zn (Zgv h_y)<|.cons (ov Y) (.b Y) .nil)<|Ra Y<|Za<|?_
 obtain rfl := rt h
 exact Zj<|Zbo [some 0, some 1, some 2, some 4] Y (.cons (.tmp Y) .nil) (.cons Y (ro1 (by exact tZ_75.symm)<|rlc (.dat Y)<|rlc (.own _ Y)<|rlc (.dat Y)<|rlc (.dat Y)<|rlc (.dat Y)<|rlc (.dat Y)<|rlc (.dat Y) rln)<|.dead<|.dead<|.cons Y (roM D78) .nil) Y Y<|.dat Y
theorem ZfJ {l : List api_Memory} {copies : Int} {frames : List (Vector Int 64)} {power : Int} {r : (List (Vector Int 64)) × (List api_Memory) × Bool} (h : ZaO l copies frames power = some r) :
 CSpec Tryz.prog gl0 8 [.sl 55 (List.map R55 l), .int .i64 copies, .sl 28 (List.map R28 frames), .int .i64 power] (.tuple [.sl 28 (List.map R28 r.1), .sl 55 (List.map R55 r.2.1), .bool r.2.2]) := by
 unfold ZaO at h
 replace h := Qo h
 refine So Tryz.func8 Y fun w0 A=>Tr<|Ra Y<|Ra Y<|Ra Y<|Za<|K4 0 1 2 3 Y<|Tr<|Rm Y<|Rm Y<|bE h fun y h_y h=>?_
 rcases y with y | y
 ·
  replace h := ell h
  refine Rx Y (Z4 [] (Zci h_y) (.cons (ov Y) (.dat Y)<|.cons (ov Y) (.dat Y) .nil) .nil Y .nil Y Y<|Q6<|rlc (.dat Y)<|rlc (.dat Y) rln)<|Rm Y<|Rq Y (Zi (ov Y) Y)<|Rq Y (Zi (ov Y) Y)<|Ra Y<|Ra Y<|Za<|Zg<|K4 2 3 11 12 Y<|Tr<|Rm Y<|R2 QR Y<|Za<|K4 2 3 11 26 Y<|If h Y (fun h=>?_) fun h=>?_
  ·
   refine K0<|Tr<|Ra Y<|Ra Y<|Ra Y<|Za<|?_
   obtain rfl := rt h
   exact Zj (ZE Y (.three (.tmp Y<|View.nils 28) (.tmp Y<|View.nils 55)<|rb Y))
  ·
   refine Ze<|K3 2 3 11 Y<|Tr<|Ra Y<|Za<|I0 ⟨[(11, .lit (.pointer none)), (13, .nils)], []⟩ h (fun h=>?_) fun h=>?_
   ·
    refine Tr<|Rm Y<|Rl tZ_28 Zc5 Y<|Rm Y<|Za<|Zf<|?_
    obtain ⟨r1, hl1, ho1⟩ := QO h
    refine L0 ⟨[(3, .int .i64 power), (11, .lit (.pointer none)), (13, .nils), (27, .sl 28 (List.map R28 frames)), (28, .int .i64 (frames.length : Int)), (29, .int .i64 0)], []⟩ hl1 (ES []) fun n1 h=>?_
    unfold Zdl at h
    refine Tr<|R2 ZH Y<|Za<|Zg<|If h Y (fun h=>?_) fun h=>?_
    ·
     exact Ze<|Zg<|Zf<|K6 3 11 13 27 28 29 Y<|Tr<|bE h fun x h_x h=>Rq Y (ZX (ov Y) (ov Y) Zc5 h_x)<|Rq Y (ZP (ov Y) Xn (Qb<|Zl arL) arL)<|Rx Y (Ql (row := (List.map C26 (Vector.replicate 64 0).toList)) 0 Y Zd3 Y tZ_28)<|Rx Y (Zs (ov Y) (ov Y) (ZK Xn arL) Y Y Y (J3 (Zl arL) arL) (Zc<|arC fun _ => Y)<|XQ<|Eq.trans arL<|Eq.symm arL)<|Za<|(Zmu h).elim
    ·
     refine Zw<|?_
     replace h := lx h ▸ ho1
     exact ⟨(), h, ES []⟩
   ·
    exact (Zmu h).elim
 ·
  replace h := elr h
  refine Rx Y (Z4 [] (Zch h_y) (.cons (ov Y) (.dat Y)<|.cons (ov Y) (.dat Y) .nil) .nil Y (.lent 0 (.inr ⟨Nat.le_of_ble_eq_true Y, Y⟩) Y (ro1 (by exact tZ_75.symm)<|rlc (.own _<|.inr ⟨Nat.le_of_ble_eq_true Y, Y⟩)<|rlc (.own _<|.inr ⟨Nat.le_of_ble_eq_true Y, Y⟩)<|rlc (.dat Y)<|rlc (.dat Y)<|rlc (.dat Y)<|rlc (.dat Y)<|rlc (.dat Y) rln)<|.lent 1 (.inr ⟨Nat.le_of_ble_eq_true Y, Y⟩) Y (roO Xj)<|.lent 2 (.inr ⟨Nat.le_of_ble_eq_true Y, Y⟩) Y (roM D78) .nil) Y Y<|Q6<|rlc (.ptr _ _ _<|.inr ⟨Nat.le_of_ble_eq_true Y, Y⟩)<|rlc (.dat Y) rln)<|Rm Y<|Rq Y (Zi (ov Y) Y)<|Rq Y (Zi (ov Y) Y)<|Ra Y<|Ra Y<|Za<|Zg<|K4 2 3 11 12 Y<|QZ [some ⟨75, [[.own 1 y.1.bank.memories.length, .own 2 y.1.bank.spots.length, .int .i64 y.1.copies, .bool y.1.frozen, .bool y.1.stopped, .int .i64 y.1.last, .bool y.1.some_]]⟩, some ⟨55, List.map O55 y.1.bank.memories⟩, some ⟨78, List.map R78 y.1.bank.spots⟩] Y<|Tr<|Rm Y<|R2 QR Y<|Za<|K4 2 3 11 26 Y<|If h Y (fun h=>?_) fun h=>?_
  ·
   refine K0<|Tr<|Ra Y<|Ra Y<|Ra Y<|Za<|?_
   obtain rfl := rt h
   exact Zj (ZE Y (.three (.tmp Y<|View.nils 28) (.tmp Y<|View.nils 55)<|rb Y))
  ·
   refine Ze<|K3 2 3 11 Y<|Tr<|Ra Y<|Za<|I8 (fun memories spots copies2 frozen stopped last some_ done=>⟨[(11, .ptr 0 1 0 0), (13, .own 3 done.length)], [some ⟨75, [[.own 1 memories.length, .own 2 spots.length, .int .i64 copies2, .bool frozen, .bool stopped, .int .i64 last, .bool some_]]⟩, some ⟨55, List.map O55 memories⟩, some ⟨78, List.map R78 spots⟩, some ⟨28, List.map R28 done⟩]⟩) h (fun h=>?_) fun memories spots copies2 frozen stopped last some_ done h=>?_
   ·
    refine Tr<|Rm Y<|Rl tZ_28 Zc5 Y<|Rm Y<|Za<|Zf<|?_
    obtain ⟨r2, hl2, ho2⟩ := QO h
    refine Zeu _ (t10 fun power2 memories2 spots2 copies3 frozen2 stopped2 last2 some_2 done2 i => ⟨[(3, .int .i64 power2), (11, .ptr 0 1 0 0), (13, .own 3 done2.length), (27, .sl 28 (List.map R28 frames)), (28, .int .i64 (frames.length : Int)), (29, .int .i64 i)], [some ⟨75, [[.own 1 memories2.length, .own 2 spots2.length, .int .i64 copies3, .bool frozen2, .bool stopped2, .int .i64 last2, .bool some_2]]⟩, some ⟨55, List.map O55 memories2⟩, some ⟨78, List.map R78 spots2⟩, some ⟨28, List.map R28 done2⟩]⟩) _ hl2 (Ent.sel [some 0, some 1, some 2, none] (sd 3 Y Y<|sr 11 Y (.ptr _ _ _ Y)<|sr 13 Y (.row Y)<|sd 27 Y Y<|sd 28 Y Y<|sd 29 Y Y sn) (.cons Y (ro1 (by exact tZ_75.symm)<|rlc (.own _ Y)<|rlc (.own _ Y)<|rlc (.dat Y)<|rlc (.dat Y)<|rlc (.dat Y)<|rlc (.dat Y)<|rlc (.dat Y) rln)<|.cons Y (roO Xj)<|.cons Y (roM D78)<|.row 28 .nil) Y Y) fun n2 s2 h=>?_
    obtain ⟨power2, memories2, spots2, copies3, frozen2, stopped2, last2, some_2, done2, i⟩ := s2
    replace h := Zp7 h
    refine Zqc<|?_
    unfold XE at h
    refine Tr<|R2 ZH Y<|Za<|Zg<|If h Y (fun h=>?_) fun h=>?_
    ·
     refine Ze<|Zg<|Zf<|K6 3 11 13 27 28 29 Y<|Tr<|bE h fun x2 h_x2 h=>Rq Y (ZX (ov Y) (ov Y) Zc5 h_x2)<|Rq Y (ZP (ov Y) Xn (Qb<|Zl arL) arL)<|Rx Y (Ql (row := (List.map C26 (Vector.replicate 64 0).toList)) 4 Y Zd3 Y tZ_28)<|Rx Y (Zs (ov Y) (ov Y) (ZK Xn arL) Y Y Y (J3 (Zl arL) arL) (Zc<|arC fun _ => Y)<|XQ<|Eq.trans arL<|Eq.symm arL)<|Za<|K7 3 11 13 15 27 28 29 Y<|QZ [some ⟨75, [[.own 1 memories2.length, .own 2 spots2.length, .int .i64 copies3, .bool frozen2, .bool stopped2, .int .i64 last2, .bool some_2]]⟩, some ⟨55, List.map O55 memories2⟩, some ⟨78, List.map R78 spots2⟩, some ⟨28, List.map R28 done2⟩, some ⟨28, [(List.map C26 x2.toList)]⟩] Y<|Tr<|Rm Y<|Rq Y (QS (ov Y) Y Y Y Xn (Qb<|Zl arL) arL (hns := (nsM fun _ => Y)))<|Rm Y<|bE h fun y2 h_y2 h=>Rx Y (Z4 [0, 1, 2] (Zax h_y2) (.cons (ov Y) (.ptr _ _ _ Y)<|.cons (ov Y) (ZdJ<|rld<|arD fun _ => Y)<|.cons (ov Y) (.dat Y) .nil) (.cons Y (ro1 (by exact tZ_75.symm)<|rlc (.own _ Y)<|rlc (.own _ Y)<|rlc (.dat Y)<|rlc (.dat Y)<|rlc (.dat Y)<|rlc (.dat Y)<|rlc (.dat Y) rln)<|.cons Y (roO Xj)<|.cons Y (roM D78) .nil) Y (.lent 0 (.inl Y) Y (ro1 (by exact tZ_75.symm)<|rlc (.own _<|.inr ⟨Nat.le_of_ble_eq_true Y, Y⟩)<|rlc (.own _<|.inr ⟨Nat.le_of_ble_eq_true Y, Y⟩)<|rlc (.dat Y)<|rlc (.dat Y)<|rlc (.dat Y)<|rlc (.dat Y)<|rlc (.dat Y) rln)<|.none<|.none<|.keep Y Y<|.keep Y Y<|.lent 3 (.inr ⟨Nat.le_of_ble_eq_true Y, Y⟩) Y (roO Xj)<|.lent 4 (.inr ⟨Nat.le_of_ble_eq_true Y, Y⟩) Y (roM D78) .nil) Y Y<|Q6<|rld Y)<|Rm Y<|Rq Y (Zi (ov Y) Y)<|Rq Y (Zi (ov Y) Y)<|Rq Y (Zi (ov Y) Y)<|Ra Y<|Ra Y<|Ra Y<|Za<|Zg<|K9 11 13 15 16 17 18 27 28 29 Y<|QZ [some ⟨75, [[.own 5 y2.2.2.2.bank.memories.length, .own 6 y2.2.2.2.bank.spots.length, .int .i64 y2.2.2.2.copies, .bool y2.2.2.2.frozen, .bool y2.2.2.2.stopped, .int .i64 y2.2.2.2.last, .bool y2.2.2.2.some_]]⟩, none, none, some ⟨28, List.map R28 done2⟩, some ⟨28, [(List.map C26 x2.toList)]⟩, some ⟨55, List.map O55 y2.2.2.2.bank.memories⟩, some ⟨78, List.map R78 y2.2.2.2.bank.spots⟩] Y<|Tr<|Rm Y<|R2 QR Y<|Za<|K9 11 13 15 16 17 27 28 29 42 Y<|If h Y (fun h=>?_) fun h=>?_
     ·
      refine Zw<|?_
      replace h := lx h ▸ ho2
      exact ⟨_, h, ES [some 0, some 5, some 6, some 3] (hhp := .cons Y (ro1 (by exact tZ_75.symm)<|rlc (.own _ Y)<|rlc (.own _ Y)<|rlc (.dat Y)<|rlc (.dat Y)<|rlc (.dat Y)<|rlc (.dat Y)<|rlc (.dat Y) rln)<|.cons Y (roO Xj)<|.cons Y (roM D78)<|.cons Y (roM D28) .nil)⟩
     ·
      refine Ze<|K8 11 13 15 16 17 27 28 29 Y<|Tr<|Rm Y<|Ra Y<|Za<|Zg<|K8 3 11 13 15 17 27 28 29 Y<|Tr<|Rm Y<|R1 Xv Y<|Za<|K8 3 11 13 15 27 28 29 45 Y<|If h Y (fun h=>?_) fun h=>?_
      ·
       refine Zw<|?_
       replace h := lx h ▸ ho2
       exact ⟨_, h, ES [some 0, some 5, some 6, some 3] (hhp := .cons Y (ro1 (by exact tZ_75.symm)<|rlc (.own _ Y)<|rlc (.own _ Y)<|rlc (.dat Y)<|rlc (.dat Y)<|rlc (.dat Y)<|rlc (.dat Y)<|rlc (.dat Y) rln)<|.cons Y (roO Xj)<|.cons Y (roM D78)<|.cons Y (roM D28) .nil)⟩
      ·
       exact Ze<|K7 3 11 13 15 27 28 29 Y<|Zk<|Rm Y<|Rq Y (QS (ov Y) Y Y Y Xn (Qb<|Zl arL) arL (hns := (nsM fun _ => Y)))<|R_q (.sl 28<|List.map R28 ([x2] : List (Vector Int 64))) Y (ZaV Zc5 (.cons (cva<|ov Y) arL (pwD<|arD fun _ => Y) .nil) Y Y)<|bE h fun l2 h_l2 h=>Rx Y (QC (ov Y) (QX (ov Y) tZ_28) Zc5 Y Y Y (fun x=>Zc<|E28 x) Y h_l2)<|Ra Y<|Za<|K6 3 11 13 27 28 29 Y<|QZ [some ⟨75, [[.own 5 y2.2.2.2.bank.memories.length, .own 6 y2.2.2.2.bank.spots.length, .int .i64 y2.2.2.2.copies, .bool y2.2.2.2.frozen, .bool y2.2.2.2.stopped, .int .i64 y2.2.2.2.last, .bool y2.2.2.2.some_]]⟩, none, none, some ⟨28, List.map R28 l2⟩, some ⟨28, [(List.map C26 x2.toList)]⟩, some ⟨55, List.map O55 y2.2.2.2.bank.memories⟩, some ⟨78, List.map R78 y2.2.2.2.bank.spots⟩] Y<|Zk<|R2 ZN Y<|Rm Y<|Za<|⟨_, h, ES [some 0, some 5, some 6, some 3] (hhp := .cons Y (ro1 (by exact tZ_75.symm)<|rlc (.own _ Y)<|rlc (.own _ Y)<|rlc (.dat Y)<|rlc (.dat Y)<|rlc (.dat Y)<|rlc (.dat Y)<|rlc (.dat Y) rln)<|.cons Y (roO Xj)<|.cons Y (roM D78)<|.cons Y (roM D28) .nil)⟩
    ·
     refine Zw<|?_
     replace h := lx h ▸ ho2
     exact ⟨_, h, ES [some 0, some 1, some 2, some 3] (hhp := .cons Y (ro1 (by exact tZ_75.symm)<|rlc (.own _ Y)<|rlc (.own _ Y)<|rlc (.dat Y)<|rlc (.dat Y)<|rlc (.dat Y)<|rlc (.dat Y)<|rlc (.dat Y) rln)<|.cons Y (roO Xj)<|.cons Y (roM D78)<|.cons Y (roM D28) .nil)⟩
   ·
    refine Tr<|Rm Y<|Rm Y<|bE h fun y3 h_y3 h=>Rx Y (Z4 [0, 1, 2] (J7 h_y3) (.cons (ov Y) (.ptr _ _ _ Y) .nil) (.cons Y (ro1 (by exact tZ_75.symm)<|rlc (.own _ Y)<|rlc (.own _ Y)<|rlc (.dat Y)<|rlc (.dat Y)<|rlc (.dat Y)<|rlc (.dat Y)<|rlc (.dat Y) rln)<|.cons Y (roO Xj)<|.cons Y (roM D78) .nil) Y (.lent 0 (.inl Y) Y (ro1 (by exact tZ_75.symm)<|rlc (.dat Y)<|rlc (.own _<|.inr ⟨Nat.le_of_ble_eq_true Y, Y⟩)<|rlc (.dat Y)<|rlc (.dat Y)<|rlc (.dat Y)<|rlc (.dat Y)<|rlc (.dat Y) rln)<|.none<|.none<|.keep Y Y<|.lent 3 (.inr ⟨Nat.le_of_ble_eq_true Y, Y⟩) Y (roM D78) .nil) Y Y<|.dat Y)<|Ra Y<|Ra Y<|Ra Y<|Za<|?_
    obtain rfl := rt h
    exact Zj (ZE Y (.three (.tmp Y<|View.ownM Y Y D28) (rb Y)<|rb Y))
theorem Zgt {p : Vector Int 96} {i : Int} {r : Int} (h : ZbE p i = some r) :
 CSpec Tryz.prog gl0 92 [.rp (List.map C5 p.toList) 0, .int .i64 i] (.int .u16 r) := by
 unfold ZbE at h
 replace h := Qo h
 refine So Tryz.func92 Y fun w0 A=>Tr<|Ra Y<|Za<|K2 0 1 Y<|Tr<|Rm Y<|bE h fun q h_q h=>Rq Y (Zf1 (ov Y) (ov Y) h_q)<|R2 Zft Y<|Ra Y<|Za<|Zg<|K3 0 1 5 Y<|Tr<|Rm Y<|bE h fun q2 h_q2 h=>Rq Y (Zab (ov Y) (ov Y) h_q2)<|R2 Za1 Y<|Za<|K3 0 5 11 Y<|If h Y (fun h=>?_) fun h=>?_
 ·
  refine Zg<|K2 0 5 Y<|Qn (cw := md0) (by kernel_rfl)<|D1 0 Zb Y<|D1 1 Zb Y<|D1 2 ZG Y<|bE h fun x h_x h=>Dq 3 Y (QB (ov Y) (ov Y) ZcY h_x)<|Dq 4 Y (Zd (ov Y) tS5<|Z8<|QV (o := 0) (o' := ((i64 (q * 3)).toNat * 1)) (Zl arL)<|QW h_x)<|Dq 5 Y (QI (ov Y) tI5 Zdg Y)<|bE h fun q3 h_q3 h=>Dq 6 Y (Zdx (ov Y) (ov Y) h_q3)<|D1 7 Zb Y<|D1 8 Zb Y<|D2 9 ZN Y<|D1 10 ZG Y<|bE h fun x2 h_x2 h=>Dq 11 Y (QB (ov Y) (ov Y) ZcY h_x2)<|Dq 12 Y (Zd (ov Y) tS5<|Z8<|QV (o := 0) (o' := ((i64 ((i64 (q * 3)) + 1)).toNat * 1)) (Zl arL)<|QW h_x2)<|Dq 13 Y (QI (ov Y) tI5 Zdg Y)<|bE h fun q4 h_q4 h=>Dq 14 Y (ZbQ (ov Y) (ov Y) h_q4)<|D2 15 Zeo Y<|D1 16 Q1 Y<|Dd<|?_
  obtain rfl := rt h
  exact Zj (ZE Y (.one<|rb Y))
 ·
  refine Ze<|Zg<|K2 0 5 Y<|Qn (cw := md0) (by kernel_rfl)<|D1 0 Zb Y<|D1 1 Zb Y<|D2 2 ZN Y<|D1 3 ZG Y<|bE h fun x3 h_x3 h=>Dq 4 Y (QB (ov Y) (ov Y) ZcY h_x3)<|Dq 5 Y (Zd (ov Y) tS5<|Z8<|QV (o := 0) (o' := ((i64 ((i64 (q * 3)) + 1)).toNat * 1)) (Zl arL)<|QW h_x3)<|Dq 6 Y (QI (ov Y) tI5 Zdg Y)<|D2 7 ZbG Y<|bE h fun q5 h_q5 h=>Dq 8 Y (Zdx (ov Y) (ov Y) h_q5)<|D1 9 Zb Y<|D1 10 Zb Y<|D2 11 ZN Y<|D1 12 ZG Y<|bE h fun x4 h_x4 h=>Dq 13 Y (QB (ov Y) (ov Y) ZcY h_x4)<|Dq 14 Y (Zd (ov Y) tS5<|Z8<|QV (o := 0) (o' := ((i64 ((i64 (q * 3)) + 2)).toNat * 1)) (Zl arL)<|QW h_x4)<|Dq 15 Y (QI (ov Y) tI5 Zdg Y)<|D2 16 Zeo Y<|D1 17 Q1 Y<|Dd<|?_
  obtain rfl := rt h
  exact Zj (ZE Y (.one<|rb Y))
theorem ZhE {p : Vector Int 96} {r : (Vector Int 64)} (h : ZcL p = some r) :
 CSpec Tryz.prog gl0 71 [.rp (List.map C5 p.toList) 0] (.agg (List.map C26 r.toList)) := by
 unfold ZcL at h
 replace h := Qo h
 refine So Tryz.func71 Y fun w0 A=>Tr<|Rx Y (Ql (row := (List.map C26 (Vector.replicate 64 0).toList)) 0 Y Zd3 Y tZ_28)<|Za<|Tr<|Rx Y (Ql (row := (List.map C26 (Vector.replicate 64 0).toList)) 1 Y Zd3 Y tZ_28)<|Za<|I1 (fun f=>⟨[(2, .ptr 0 1 0 0), (3, .ptr 1 1 0 0)], [some ⟨28, [(List.map C26 (Vector.replicate 64 0).toList)]⟩, some ⟨28, [(List.map C26 f.toList)]⟩]⟩) h (fun h=>?_) fun f h=>?_
 ·
  refine Tr<|Rm Y<|Za<|Zf<|?_
  obtain ⟨r1, hl1, ho1⟩ := QO h
  refine L2 (fun f2 i=>⟨[(0, .rp (List.map C5 p.toList) 0), (2, .ptr 0 1 0 0), (3, .ptr 1 1 0 0), (5, .int .i64 i)], [some ⟨28, [(List.map C26 (Vector.replicate 64 0).toList)]⟩, some ⟨28, [(List.map C26 f2.toList)]⟩]⟩) hl1 (ES [some 0, some 1]) fun n1 f2 i h=>?_
  unfold ZaM at h
  refine Tr<|R2 ZH Y<|Za<|Zg<|If h Y (fun h=>?_) fun h=>?_
  ·
   exact Ze<|Zg<|Zf<|K4 0 2 3 5 Y<|Tr<|Rm Y<|Ra Y<|Za<|K5 0 2 3 4 5 Y<|Zk<|Rm Y<|Rm Y<|Rm Y<|bE h fun y h_y h=>Rq Y (Zn (Zgt h_y)<|.cons (ov Y) (.b Y)<|.cons (ov Y) (.b Y) .nil)<|bE h fun x h_x h=>Rq Y (Jc (ov Y) (ov Y) X8 Y Y h_x)<|Rx Y (Zs (ov Y) (ov Y) (Zo Je) Y Y Y (arB h_x) (Zc Y)<|arS h_x)<|Za<|K4 0 2 3 5 Y<|Zk<|R2 ZN Y<|Rm Y<|Za<|⟨_, h, ES [some 0, some 1]⟩
  ·
   refine Zw<|?_
   replace h := lx h ▸ ho1
   exact ⟨_, h, ES [some 0, some 1]⟩
 ·
  refine Tr<|Rq Y (QS (ov Y) Y Y Y Xn (Qb<|Zl arL) arL (hns := (nsM fun _ => Y)))<|Rx Y (Zs (ov Y) (ov Y) (ZK Xn arL) Y Y Y (J3 (Zl arL) arL) (Zc<|arC fun _ => Y)<|XQ<|Eq.trans arL<|Eq.symm arL)<|Za<|?_
  obtain rfl := rt h
  exact Zj (ZE Y (.one<|.agg Y Y Y Y Xn (Qb<|Zl arL) arL (pwB<|arD fun _ => Y) (hns := (nsM fun _ => Y))))
theorem Ze5 {b : List Int} {r : (Vector Int 64) × Int} (h : XT b = some r) :
 CSpec Tryz.prog gl0 46 [.sl 5 (List.map R5 b)] (.tuple [.agg (List.map C26 r.1.toList), .int .i64 r.2]) := by
 unfold XT at h
 replace h := Qo h
 refine So Tryz.func46 Y fun w0 A=>Tr<|Rx Y (Ql (row := (List.map C26 (Vector.replicate 64 0).toList)) 0 Y Zd3 Y tZ_28)<|Ra Y<|Za<|Zg<|K2 0 2 Y<|Tr<|Rm Y<|Rl tZ_5 XR Y<|R2 ZH Y<|Za<|K3 0 2 7 Y<|If h Y (fun h=>?_) fun h=>?_
 ·
  refine K1 2 Y<|Tr<|R_q (.agg<|List.map C26 (#v[0, 0, 0, 0, 0, 0, 0, 0, 0, 0, 0, 0, 0, 0, 0, 0, 0, 0, 0, 0, 0, 0, 0, 0, 0, 0, 0, 0, 0, 0, 0, 0, 0, 0, 0, 0, 0, 0, 0, 0, 0, 0, 0, 0, 0, 0, 0, 0, 0, 0, 0, 0, 0, 0, 0, 0, 0, 0, 0, 0, 0, 0, 0, 0] : Vector Int 64).toList) Y (Zd8 (ys := [_, _, _, _, _, _, _, _, _, _, _, _, _, _, _, _, _, _, _, _, _, _, _, _, _, _, _, _, _, _, _, _, _, _, _, _, _, _, _, _, _, _, _, _, _, _, _, _, _, _, _, _, _, _, _, _, _, _, _, _, _, _, _, _]) X8 Zd3 .nil Y)<|Rx Y (Zs (ov Y) (ov Y) (ZK Xn arL) Y Y Y (J3 (Zl arL) arL) (Zc<|arC fun _ => Y)<|XQ<|Eq.trans arL<|Eq.symm arL)<|Ra Y<|Za<|?_
  obtain rfl := rt h
  exact Zj (ZE Y (.two (.agg Y Y Y Y Xn (Qb<|Zl arL) arL (pwB<|arD fun _ => Y) (hns := (nsM fun _ => Y)))<|rb Y))
 ·
  refine Ze<|K2 0 2 Y<|Tr<|Rm Y<|bE h fun l h_l h=>Rq Y (Zhe (ov Y) XR on (oi<|ov Y) h_l)<|bE h fun v h_v h=>Rq Y (ZjV (f := C5) (ov Y) ZcY tZ_5 Y h_v)<|Rq Y (ZP (ov Y) ZnY (Qb<|Zl arL) arL)<|Rx Y (Ql (row := (List.map C5 (Vector.replicate 96 0).toList)) 1 Y ZnX Y tZ_114)<|Rx Y (Zs (ov Y) (ov Y) (ZK ZnY arL) Y Y Y (J3 (Zl arL) arL) (Zc<|arC fun _ => Y)<|XQ<|Eq.trans arL<|Eq.symm arL)<|Za<|K2 2 4 Y<|Tr<|bE h fun y h_y h=>Rq Y (J5 (ZhE h_y) (Zfn fun _=>.int)<|.cons (ov Y) (View.ptr Y Y Y (pwB<|arD fun _ => Y) (hns := (nsM fun _ => Y))) .nil)<|Rx Y (Zs (ov Y) (ov Y) (ZK Xn arL) Y Y Y (J3 (Zl arL) arL) (Zc<|arC fun _ => Y)<|XQ<|Eq.trans arL<|Eq.symm arL)<|Ra Y<|Za<|?_
  obtain rfl := rt h
  exact Zj (ZE Y (.two (.agg Y Y Y Y Xn (Qb<|Zl arL) arL (pwB<|arD fun _ => Y) (hns := (nsM fun _ => Y)))<|rb Y))
theorem Zgw {l : List api_Memory} {r : (List api_Kept) × Int} (h : ZbB l = some r) :
 CSpec Tryz.prog gl0 21 [.sl 55 (List.map R55 l)] (.tuple [.sl 66 (List.map R66 r.1), .int .i64 r.2]) := by
 unfold ZbB at h
 replace h := Qo h
 refine So Tryz.func21 Y fun w0 A=>Tr<|Ra Y<|Ra Y<|Za<|Zg<|K1 0 Y<|Tr<|Rm Y<|bE h fun y h_y h=>Rq Y (Zn (ZbO h_y)<|.cons (ov Y) (.b Y) .nil)<|Ra Y<|Za<|K2 0 4 Y<|Tr<|Rm Y<|R2 QR Y<|Za<|K3 0 4 20 Y<|If h Y (fun h=>?_) fun h=>?_
 ·
  refine K1 4 Y<|Tr<|Rm Y<|Ra Y<|Ra Y<|Za<|?_
  obtain rfl := rt h
  exact Zj (ZE Y (.two (.tmp Y<|View.nils 66)<|rb Y))
 ·
  refine Ze<|K1 0 Y<|Tr<|Ra Y<|Za<|I1 (fun out=>⟨[(5, .own 0 out.length)], [some ⟨66, List.map R66 out⟩]⟩) h (fun h=>?_) fun out h=>?_
  ·
   refine Tr<|Rm Y<|Rl tZ_55 ZaB Y<|Rm Y<|Za<|Zf<|?_
   obtain ⟨r1, hl1, ho1⟩ := QO h
   refine L2 (fun out2 i=>⟨[(5, .own 0 out2.length), (22, .sl 55 (List.map R55 l)), (23, .int .i64 (l.length : Int)), (24, .int .i64 i)], [some ⟨66, List.map R66 out2⟩]⟩) hl1 (ES [none]) fun n1 out2 i h=>?_
   unfold JG at h
   refine Tr<|R2 ZH Y<|Za<|Zg<|If h Y (fun h=>?_) fun h=>?_
   ·
    refine Ze<|I1 (fun out3=>⟨[(5, .own 0 out3.length), (22, .sl 55 (List.map R55 l)), (23, .int .i64 (l.length : Int)), (24, .int .i64 i)], [some ⟨66, List.map R66 out3⟩]⟩) h (fun h=>?_) fun out3 h=>?_
    ·
     refine Zf<|K4 5 22 23 24 Y<|Tr<|Rm Y<|bE h fun x h_x h=>Rq Y (ZX (ov Y) (ov Y) ZaB h_x)<|Rq Y (ZP (ov Y) Za2 Y Y)<|Rx Y (Ql (row := [_, _, _, _, _]) 1 Y ZhO Y tZ_55)<|Ra Y<|Rx Y (Zs (ov Y) (ov Y) (ZK Za2 Y) Y Y Y (Nat.le_of_ble_eq_true Y) (Zc Y) Y)<|Za<|K6 5 6 7 22 23 24 Y<|Tr<|Rq Y (QS (ov Y) Y Y Y Za2 Y Y)<|bE h fun y2 h_y2 h=>Rq Y (Zn (ZdT h_y2)<|.cons (ov Y) (.aggB Y) .nil)<|Rl tZ_3 Q5 Y<|Rm Y<|Za<|Zf<|?_
     obtain ⟨r2, hl2, ho2⟩ := QO h
     refine L2 (fun out4 i2=>⟨[(5, .own 0 out4.length), (6, .int .i64 i), (7, .ptr 1 1 0 0), (22, .sl 55 (List.map R55 l)), (23, .int .i64 (l.length : Int)), (24, .int .i64 i), (30, .sl 3 (List.map R3 y2)), (31, .int .i64 (y2.length : Int)), (32, .int .i64 i2)], [some ⟨66, List.map R66 out4⟩, some ⟨55, [[.int .i64 x.Slots, .int .i64 x.Limit, .sl 56 (List.map R56 x.Sectors), .sl 3 (List.map R3 x.Wear), .sl 4 (List.map R4 x.Bad)]]⟩]⟩) hl2 (ES [some 0, some 1]) fun n2 out4 i2 h=>?_
     unfold JQ at h
     refine Tr<|R2 ZH Y<|Za<|Zg<|If h Y (fun h=>?_) fun h=>?_
     ·
      refine Ze<|I1 (fun out5=>⟨[(5, .own 0 out5.length), (6, .int .i64 i), (7, .ptr 1 1 0 0), (22, .sl 55 (List.map R55 l)), (23, .int .i64 (l.length : Int)), (24, .int .i64 i), (30, .sl 3 (List.map R3 y2)), (31, .int .i64 (y2.length : Int)), (32, .int .i64 i2)], [some ⟨66, List.map R66 out5⟩, some ⟨55, [[.int .i64 x.Slots, .int .i64 x.Limit, .sl 56 (List.map R56 x.Sectors), .sl 3 (List.map R3 x.Wear), .sl 4 (List.map R4 x.Bad)]]⟩]⟩) h (fun h=>?_) fun out5 h=>?_
      ·
       refine Zf<|K9 5 6 7 22 23 24 30 31 32 Y<|Tr<|bE h fun x2 h_x2 h=>Rq Y (ZX (ov Y) (ov Y) Q5 h_x2)<|Rq Y (Zd (ov Y) tS3 Y)<|Ra Y<|Za<|K10 5 6 7 9 22 23 24 30 31 32 Y<|Tr<|Rq Y (Zr (ov Y) Y Y Jw)<|Rq Y (ZV (ov Y) Y Y Y ZdB Y)<|Rm Y<|bE h fun x3 h_x3 h=>Rq Y (ZX (ov Y) (ov Y) Zcd h_x3)<|Rq Y (Zd (ov Y) Zfl Y)<|bE h fun y3 h_y3 h=>Rq Y (Zn (ZbL h_y3)<|.cons (ov Y) (.b Y) .nil)<|Rm Y<|Rq Y (Zi (ov Y) Y)<|Rq Y (Zi (ov Y) Y)<|Rq Y (Zi (ov Y) Y)<|Ra Y<|Ra Y<|Ra Y<|Za<|K11 5 6 7 9 10 22 23 24 30 31 32 Y<|Tr<|Rq Y (Zr (ov Y) Y Y Zet)<|Rq Y (ZV (ov Y) Y Y Y tS3 Y)<|Rm Y<|Za<|Zf<|?_
       obtain ⟨r3, hl3, ho3⟩ := QO h
       refine L2 (fun out6 i3=>⟨[(5, .own 0 out6.length), (6, .int .i64 i), (7, .ptr 1 1 0 0), (9, .int .i64 x2), (10, .int .i64 y3.1), (22, .sl 55 (List.map R55 l)), (23, .int .i64 (l.length : Int)), (24, .int .i64 i), (30, .sl 3 (List.map R3 y2)), (31, .int .i64 (y2.length : Int)), (32, .int .i64 i2), (47, .int .i64 x.Slots), (48, .int .i64 i3)], [some ⟨66, List.map R66 out6⟩, some ⟨55, [[.int .i64 x.Slots, .int .i64 x.Limit, .sl 56 (List.map R56 x.Sectors), .sl 3 (List.map R3 x.Wear), .sl 4 (List.map R4 x.Bad)]]⟩]⟩) hl3 (ES [some 0, some 1]) fun n3 out6 i3 h=>?_
       unfold JI at h
       refine Tr<|R2 ZH Y<|Za<|Zg<|If h Y (fun h=>?_) fun h=>?_
       ·
        refine Ze<|Zg<|Zf<|X9 (kc 5 Y<|kc 6 Y<|kc 7 Y<|kc 9 Y<|kc 10 Y<|kc 22 Y<|kc 23 Y<|kc 24 Y<|kc 30 Y<|kc 31 Y<|kc 32 Y<|kc 47 Y<|kc 48 Y kn) Y<|Tr<|Rm Y<|Ra Y<|Za<|X9 (kc 5 Y<|kc 6 Y<|kc 7 Y<|kc 9 Y<|kc 10 Y<|kc 13 Y<|kc 22 Y<|kc 23 Y<|kc 24 Y<|kc 30 Y<|kc 31 Y<|kc 32 Y<|kc 47 Y<|kc 48 Y kn) Y<|Tr<|Rq Y (Zr (ov Y) Y Y Jw)<|Rq Y (ZV (ov Y) Y Y Y ZdB Y)<|Rm Y<|bE h fun x4 h_x4 h=>Rq Y (ZX (ov Y) (ov Y) Zcd h_x4)<|Rq Y (Zd (ov Y) Zfl Y)<|Rm Y<|bE h fun y4 h_y4 h=>Rq Y (Zn (Zef h_y4)<|.cons (ov Y) (.b Y)<|.cons (ov Y) (.b Y) .nil)<|Ra Y<|Za<|X9 (kc 5 Y<|kc 6 Y<|kc 7 Y<|kc 9 Y<|kc 10 Y<|kc 13 Y<|kc 14 Y<|kc 22 Y<|kc 23 Y<|kc 24 Y<|kc 30 Y<|kc 31 Y<|kc 32 Y<|kc 47 Y<|kc 48 Y kn) Y<|Tr<|Rm Y<|bE h fun y5 h_y5 h=>Rq Y (Zn (ZdQ h_y5)<|.cons (ov Y) (.b Y) .nil)<|R2 Za1 Y<|Za<|X9 (kc 5 Y<|kc 6 Y<|kc 7 Y<|kc 9 Y<|kc 10 Y<|kc 13 Y<|kc 14 Y<|kc 22 Y<|kc 23 Y<|kc 24 Y<|kc 30 Y<|kc 31 Y<|kc 32 Y<|kc 47 Y<|kc 48 Y<|kc 60 Y kn) Y<|If h Y (fun h=>?_) fun h=>?_
        ·
         exact X9 (kc 5 Y<|kc 6 Y<|kc 7 Y<|kc 9 Y<|kc 10 Y<|kc 13 Y<|kc 14 Y<|kc 22 Y<|kc 23 Y<|kc 24 Y<|kc 30 Y<|kc 31 Y<|kc 32 Y<|kc 47 Y<|kc 48 Y kn) Y<|Tr<|Rm Y<|R1 ZG Y<|bE h fun l2 h_l2 h=>Rq Y (Zkv (f := C5) (ov Y) Zkl tZ_5 (Zl arL) Y on on h_l2)<|bE h fun y6 h_y6 h=>Rq Y (Zn (Ze5 h_y6)<|.cons (ov Y) (.b Y) .nil)<|Rm Y<|Rq Y (Zi (ov Y) Y)<|Rq Y (Zi (ov Y) Y)<|Rx Y (Ql (row := (List.map C26 (Vector.replicate 64 0).toList)) 2 Y Zd3 Y tZ_28)<|Rx Y (Zs (ov Y) (ov Y) (ZK Xn arL) Y Y Y (J3 (Zl arL) arL) (Zc<|arC fun _ => Y)<|XQ<|Eq.trans arL<|Eq.symm arL)<|Ra Y<|Za<|X9 (kc 5 Y<|kc 6 Y<|kc 7 Y<|kc 9 Y<|kc 10 Y<|kc 13 Y<|kc 15 Y<|kc 22 Y<|kc 23 Y<|kc 24 Y<|kc 30 Y<|kc 31 Y<|kc 32 Y<|kc 47 Y<|kc 48 Y kn) Y<|Zk<|Rm Y<|Rm Y<|Rm Y<|Rm Y<|Rm Y<|Rq Y (QS (ov Y) Y Y Y Xn (Qb<|Zl arL) arL (hns := (nsM fun _ => Y)))<|Rq Y (ZmA (zr := (.int .i64 0) :: (.int .i64 0) :: (.int .i64 0) :: (.int .i64 0) :: ((List.map C26 (Vector.replicate 64 0).toList) ++ ([]))) ZpE Zph ZoR (by kernel_rfl) (.cons (cvs (ov Y)<|ZT Y)<|.cons (cvs (ov Y)<|ZT Y)<|.cons (cvs (ov Y)<|ZT Y)<|.cons (cvs (ov Y)<|ZT Y)<|.cons (cva<|ov Y) .nil)<|Zfm Y Y at1 pt2<|Zfm Y Y at3 pt4<|Zfm Y Y at5 pt6<|Zfm Y Y at7 pt8<|Zfm Y arL at9 ZpS ZoN)<|R_q (.sl 66<|List.map R66 ([(api_Kept.mk i x2 y3.1 i3 y6.1)] : List api_Kept)) Y (ZaV ZmV (.cons (cva<|ov Y) ZcU (pwD Ze6) .nil) Y Y)<|bE h fun l3 h_l3 h=>Rx Y (QC (ov Y) (QX (ov Y) tZ_66) ZmV Y Y Y (fun x=>Zc<|E66 x) Y h_l3)<|Ra Y<|Za<|X9 (kc 5 Y<|kc 6 Y<|kc 7 Y<|kc 9 Y<|kc 10 Y<|kc 22 Y<|kc 23 Y<|kc 24 Y<|kc 30 Y<|kc 31 Y<|kc 32 Y<|kc 47 Y<|kc 48 Y kn) Y<|Zk<|R2 ZN Y<|Rm Y<|Za<|⟨_, h, ES [some 0, some 1]⟩
        ·
         exact Ze<|X9 (kc 5 Y<|kc 6 Y<|kc 7 Y<|kc 9 Y<|kc 10 Y<|kc 22 Y<|kc 23 Y<|kc 24 Y<|kc 30 Y<|kc 31 Y<|kc 32 Y<|kc 47 Y<|kc 48 Y kn) Y<|Zk<|R2 ZN Y<|Rm Y<|Za<|⟨_, h, ES [some 0, some 1]⟩
       ·
        refine Zw<|?_
        replace h := lx h ▸ ho3
        exact ⟨_, h, ES [some 0, some 1]⟩
      ·
       exact Zk<|R2 ZN Y<|Rm Y<|Za<|⟨_, h, ES [some 0, some 1]⟩
     ·
      refine Zw<|?_
      replace h := lx h ▸ ho2
      exact ⟨_, h, ES [some 0]⟩
    ·
     exact Zk<|R2 ZN Y<|Rm Y<|Za<|⟨_, h, ES [some 0]⟩
   ·
    refine Zw<|?_
    replace h := lx h ▸ ho1
    exact ⟨_, h, ES [some 0]⟩
  ·
   refine Tr<|Rm Y<|Ra Y<|Ra Y<|Za<|?_
   obtain rfl := rt h
   exact Zj (ZE Y (.two (.tmp Y<|View.ownM Y Y D66)<|rb Y))
theorem ZkJ {xs r : List Int} (h : Zgp xs = some r) :
    GSpec Tryz.prog gl0 24 [.own 0 xs.length] [some ⟨3, List.map R3 xs⟩] (.tuple []) [some ⟨3, List.map R3 r⟩] :=
  Zli (g := R3) (fun _ => rfl) (by kernel_rfl) tZ_3 (fun _ _ _ _ _ h1 h2 h3 => Any.slices_Sort_int Tryz.lays189 _ _ _ _ _ h1 h2 h3) (fun p c w => Any.slices_Sort_int_none Tryz.lays189 p c w) h
theorem Zej {l : List api_Memory} {r : (List (Vector Int 64)) × Int} (h : Zak l = some r) :
 CSpec Tryz.prog gl0 9 [.sl 55 (List.map R55 l)] (.tuple [.sl 28 (List.map R28 r.1), .int .i64 r.2]) := by
 unfold Zak at h
 replace h := Qo h
 refine So Tryz.func9 Y fun w0 A=>Tr<|Ra Y<|Ra Y<|Za<|K1 0 Y<|Tr<|Rm Y<|bE h fun y h_y h=>Rq Y (Zn (Zgw h_y)<|.cons (ov Y) (.b Y) .nil)<|Rm Y<|Rq Y (Zi (ov Y) Y)<|Rq Y (Zi (ov Y) Y)<|Ra Y<|Ra Y<|Za<|Zg<|K2 4 5 Y<|Tr<|Rm Y<|R2 QR Y<|Za<|K3 4 5 23 Y<|If h Y (fun h=>?_) fun h=>?_
 ·
  refine K1 5 Y<|Tr<|Rm Y<|Ra Y<|Ra Y<|Za<|?_
  obtain rfl := rt h
  exact Zj (ZE Y (.two (.tmp Y<|View.nils 28)<|rb Y))
 ·
  refine Ze<|K1 4 Y<|Tr<|Rx Y (Zk5 0 Y Zj6)<|Ra Y<|Za<|K2 4 6 Y<|Tr<|Ra Y<|Za<|I2 (fun best numbers=>⟨[(6, .mref 0 1), (7, .own 1 numbers.length)], [some ⟨64, [[.mcon (List.map (Za0 FK3 ZeH) best)]]⟩, some ⟨3, List.map R3 numbers⟩]⟩) h (fun h=>?_) fun best numbers h=>?_
  ·
   refine Tr<|Rm Y<|Rl tZ_66 ZmV Y<|Rm Y<|Za<|Zf<|?_
   obtain ⟨r1, hl1, ho1⟩ := QO h
   refine L3 (fun best2 numbers2 i=>⟨[(6, .mref 0 1), (7, .own 1 numbers2.length), (26, .sl 66 (List.map R66 y.1)), (27, .int .i64 (y.1.length : Int)), (28, .int .i64 i)], [some ⟨64, [[.mcon (List.map (Za0 FK3 ZeH) best2)]]⟩, some ⟨3, List.map R3 numbers2⟩]⟩) hl1 (ES [some 0, none] (hhp := .cons Y (Zfc (fk := FK3) (fv := ZeH) (m := ([] : List (Int × api_Kept))) tZ_64 (fun _=>.dat Y) fun _=>.ren<|ZdJ<|rld Ze6)<|.row 3 .nil)) fun n1 best2 numbers2 i h=>?_
   unfold Xu at h
   refine Tr<|R2 ZH Y<|Za<|Zg<|If h Y (fun h=>?_) fun h=>?_
   ·
    refine Ze<|Zg<|Zf<|K5 6 7 26 27 28 Y<|Tr<|bE h fun x h_x h=>Rq Y (ZX (ov Y) (ov Y) ZmV h_x)<|Rq Y (ZP (ov Y) Znb (Qb<|Zl ZcU) ZcU)<|Rx Y (Ql (row := (.int .i64 0) :: (.int .i64 0) :: (.int .i64 0) :: (.int .i64 0) :: ((List.map C26 (Vector.replicate 64 0).toList) ++ ([]))) 2 Y ZoR (by kernel_rfl)<|by exact Eq.symm (Eq.trans (b := 68) ZcU tZ_66.symm))<|Rx Y (Zs (ov Y) (ov Y) (ZK Znb ZcU) Y Y Y (J3 (Zl ZcU) ZcU) (Zc ZoU)<|XQ<|Eq.trans ZcU<|Eq.symm ZcU)<|Za<|Zg<|K6 6 7 9 26 27 28 Y<|Tr<|Rq Y (Zr (ov Y) Y Y Zmk)<|Rq Y (QS (ov Y) Y Y Y Xn (Qb at9) arL (hns := (nsM fun _ => Y)))<|bE h fun y2 h_y2 h=>Rq Y (Zn (Zee h_y2)<|.cons (ov Y) (.aggB<|arD fun _ => Y) .nil)<|Rl tZ_95 Zcb Y<|R2 Zaw Y<|Za<|K7 6 7 9 26 27 28 36 Y<|If h Y (fun h=>?_) fun h=>?_
    ·
     exact Zw<|K5 6 7 26 27 28 Y<|Zk<|R2 ZN Y<|Rm Y<|Za<|⟨_, h, ES [some 0, some 1] (hhp := .cons Y (Zfc (fk := FK3) (fv := ZeH) (m := best2) tZ_64 (fun _=>.dat Y) fun _=>.ren<|ZdJ<|rld Ze6)<|.cons Y (roM D3) .nil)⟩
    ·
     refine Ze<|K6 6 7 9 26 27 28 Y<|Tr<|Rq Y (Zr (ov Y) Y Y Zmk)<|Rq Y (QS (ov Y) Y Y Y Xn (Qb at9) arL (hns := (nsM fun _ => Y)))<|bE h fun y3 h_y3 h=>Rq Y (Zn (ZdP h_y3)<|.cons (ov Y) (.aggB<|arD fun _ => Y) .nil)<|Rm Y<|Rq Y (Zi (ov Y) Y)<|Rq Y (Zi (ov Y) Y)<|Ra Y<|Ra Y<|Za<|K7 6 7 9 10 26 27 28 Y<|Tr<|Rm Y<|Rm Y<|bE h fun o h_o h=>Rq Y (Zpz (m := best2) (fk := FK3) (fv := ZeH) (k := y3.1) (z0 := (api_Kept.mk 0 0 0 0 (Vector.replicate 64 0))) (ov Y) (ov Y) Zj6 ZoO Y (fun _=>.b Y) (Zjf ZnG Y) (fun _ _=>Y) h_o)<|Rm Y<|Rq Y (Zi (ov Y) Y)<|Rq Y (Zi (ov Y) Y)<|Rx Y (Ql (row := (.int .i64 0) :: (.int .i64 0) :: (.int .i64 0) :: (.int .i64 0) :: ((List.map C26 (Vector.replicate 64 0).toList) ++ ([]))) 3 Y ZoR (by kernel_rfl)<|by exact Eq.symm (Eq.trans (b := 68) ZcU tZ_66.symm))<|Rx Y (Zs (ov Y) (ov Y) (ZK Znb ZcU) Y Y Y (J3 (Zl ZcU) ZcU) (Zc ZoU)<|XQ<|Eq.trans ZcU<|Eq.symm ZcU)<|Ra Y<|Za<|I1 (fun numbers3=>⟨[(6, .mref 0 1), (7, .own 1 numbers3.length), (9, .ptr 2 1 0 0), (10, .int .i64 y3.1), (12, .ptr 3 1 0 0), (13, .bool o.isSome), (26, .sl 66 (List.map R66 y.1)), (27, .int .i64 (y.1.length : Int)), (28, .int .i64 i)], [some ⟨64, [[.mcon (List.map (Za0 FK3 ZeH) best2)]]⟩, some ⟨3, List.map R3 numbers3⟩, some ⟨66, [(.int .i64 x.Memory) :: (.int .i64 x.Sector) :: (.int .i64 x.Sequence) :: (.int .i64 x.Slot) :: ((List.map C26 x.Frame.toList) ++ ([]))]⟩, some ⟨66, [(.int .i64 ((o.getD (api_Kept.mk 0 0 0 0 (Vector.replicate 64 0))).Memory)) :: (.int .i64 ((o.getD (api_Kept.mk 0 0 0 0 (Vector.replicate 64 0))).Sector)) :: (.int .i64 ((o.getD (api_Kept.mk 0 0 0 0 (Vector.replicate 64 0))).Sequence)) :: (.int .i64 ((o.getD (api_Kept.mk 0 0 0 0 (Vector.replicate 64 0))).Slot)) :: ((List.map C26 ((o.getD (api_Kept.mk 0 0 0 0 (Vector.replicate 64 0))).Frame).toList) ++ ([]))]⟩]⟩) h (fun h=>?_) fun numbers3 h=>?_
     ·
      refine K9 6 7 9 10 12 13 26 27 28 Y<|Tr<|Rm Y<|R1 Xv Y<|Za<|K10 6 7 9 10 12 13 26 27 28 50 Y<|If h Y (fun h=>?_) fun h=>?_
      ·
       exact K9 6 7 9 10 12 13 26 27 28 Y<|Zk<|Rm Y<|Rm Y<|R_q (.sl 3<|List.map R3 ([y3.1] : List Int)) Y (ZaV Q5 (.cons (cvs (ov Y)<|ZT Y) Y (.cons (.b Y) .nil) .nil) Y Y)<|bE h fun l2 h_l2 h=>Rx Y (QC (ov Y) (QX (ov Y) tZ_3) Q5 Y Y Y (fun _=>Zc Y) Y h_l2)<|Ra Y<|Za<|⟨_, h, ES [some 0, some 1, some 2, some 3] (hhp := .cons Y (Zfc (fk := FK3) (fv := ZeH) (m := best2) tZ_64 (fun _=>.dat Y) fun _=>.ren<|ZdJ<|rld Ze6)<|.cons Y (roM D3)<|.cons Y (ro1 (by exact Eq.trans (b := 68) ZcU tZ_66.symm)<|rld Ze6)<|.cons Y (ro1 (by exact Eq.trans (b := 68) ZcU tZ_66.symm)<|rld Ze6) .nil)⟩
      ·
       exact Ze<|⟨_, h, ES [some 0, some 1, some 2, some 3] (hhp := .cons Y (Zfc (fk := FK3) (fv := ZeH) (m := best2) tZ_64 (fun _=>.dat Y) fun _=>.ren<|ZdJ<|rld Ze6)<|.cons Y (roM D3)<|.cons Y (ro1 (by exact Eq.trans (b := 68) ZcU tZ_66.symm)<|rld Ze6)<|.cons Y (ro1 (by exact Eq.trans (b := 68) ZcU tZ_66.symm)<|rld Ze6) .nil)⟩
     ·
      refine Tr<|Rm Y<|R1 Xv Y<|Rm Y<|Rq Y (.guarded ((!o.isSome) == false) Y Y Y Y fun h => Zr (ov Y) Y Y ZlB)<|Rq Y (.guarded ((!o.isSome) == false) Y Y Y Y fun h => ZV (ow Y h) Y Y Y tS3<|Z8 at5)<|Rq Y (.guarded ((!o.isSome) == false) Y Y Y Y fun h => Zr (ov Y) Y Y ZlB)<|Rq Y (.guarded ((!o.isSome) == false) Y Y Y Y fun h => ZV (ow Y h) Y Y Y tS3<|Z8 at5)<|Rq Y (.guarded ((!o.isSome) == false) Y Y Y Y fun h => Zaw (ow Y h)<|ow Y h)<|Rq Y (Zb9 (ov Y) fun hp=>ow Y<|gF hp)<|Za<|K8 6 7 9 10 26 27 28 63 Y<|If h Y (fun h=>?_) fun h=>?_
      ·
       exact K7 6 7 9 10 26 27 28 Y<|Zk<|Rm Y<|Rm Y<|Rq Y (QS (ov Y) Y Y Y Znb (Qb<|Zl ZcU) ZcU (hns := Zp8))<|Rx Y (ZmE (m := best2) (fk := FK3) (fv := ZeH) (k := y3.1) (v := x) (ov Y) (ov Y) (ov Y) Zj6 ZoO Y fun _=>.b Y)<|Za<|K5 6 7 26 27 28 Y<|Zk<|R2 ZN Y<|Rm Y<|Za<|⟨_, h, ES [some 0, some 1] (hhp := .cons Y (Zfc (fk := FK3) (fv := ZeH) (m := (Zfe kqI best2 y3.1 x)) tZ_64 (fun _=>.dat Y) fun _=>.ren<|ZdJ<|rld Ze6)<|.cons Y (roM D3) .nil)⟩
      ·
       exact Ze<|K5 6 7 26 27 28 Y<|Zk<|R2 ZN Y<|Rm Y<|Za<|⟨_, h, ES [some 0, some 1] (hhp := .cons Y (Zfc (fk := FK3) (fv := ZeH) (m := best2) tZ_64 (fun _=>.dat Y) fun _=>.ren<|ZdJ<|rld Ze6)<|.cons Y (roM D3) .nil)⟩
   ·
    refine Zw<|?_
    replace h := lx h ▸ ho1
    exact ⟨_, h, ES [some 0, some 1] (hhp := .cons Y (Zfc (fk := FK3) (fv := ZeH) (m := best2) tZ_64 (fun _=>.dat Y) fun _=>.ren<|ZdJ<|rld Ze6)<|.cons Y (roM D3) .nil)⟩
  ·
   refine Tr<|Rm Y<|bE h fun y4 h_y4 h=>Rx Y (Z4 [1] (ZkJ h_y4) (.cons (ov Y) (.own _ Y) .nil) (.cons Y (roM D3) .nil) Y (.keep Y Y<|.lent 0 (.inl Y) Y (roM D3) .nil) Y Y<|Q6<|rld Y)<|Za<|K2 6 7 Y<|Tr<|Ra Y<|Za<|I1 (fun out=>⟨[(14, .own 0 out.length)], [some ⟨28, List.map R28 out⟩]⟩) h (fun h=>?_) fun out h=>?_
   ·
    refine Tr<|Rm Y<|Rq Y (Zd6 (ov Y) Y (Zhx h_y4) Q5)<|Rm Y<|Za<|Zf<|?_
    obtain ⟨r2, hl2, ho2⟩ := QO h
    refine L2 (fun out2 i2=>⟨[(6, .mref 0 1), (14, .own 1 out2.length), (70, .own 2 y4.length), (71, .int .i64 (y4.length : Int)), (72, .int .i64 i2)], [some ⟨64, [[.mcon (List.map (Za0 FK3 ZeH) best)]]⟩, some ⟨28, List.map R28 out2⟩, some ⟨3, List.map R3 y4⟩]⟩) hl2 (Ent.sel [some 0, none, some 1] (sr 6 Y (.mref _ Y)<|sr 14 Y (.row Y)<|sr 70 Y (Zc7 (Eq.symm<|Zhx h_y4) Y)<|sd 71 Y Y<|sd 72 Y Y sn) (.cons Y (Zfc (fk := FK3) (fv := ZeH) (m := best) tZ_64 (fun _=>.dat Y) fun _=>.ren<|ZdJ<|rld Ze6)<|.row 28<|.cons Y (roM D3) .nil) Y Y) fun n2 out2 i2 h=>?_
    unfold Zag at h
    refine Tr<|R2 ZH Y<|Za<|Zg<|If h Y (fun h=>?_) fun h=>?_
    ·
     exact Ze<|Zg<|Zf<|K5 6 14 70 71 72 Y<|Tr<|bE h fun x2 h_x2 h=>Rq Y (Qk (ov Y) (ov Y) Q5 Y Y h_x2)<|Rq Y (Qp (ov Y) Y Y h_x2 tS3 Y)<|Ra Y<|Za<|K6 6 14 16 70 71 72 Y<|Zk<|Rm Y<|Rm Y<|Rm Y<|bE h fun o2 h_o2 h=>Rq Y (ZpF (m := best) (fk := FK3) (fv := ZeH) (k := x2) (z0 := (api_Kept.mk 0 0 0 0 (Vector.replicate 64 0))) (ov Y) (ov Y) Zj6 ZoO Y (fun _=>.b Y) (Zjf ZnG Y) (fun _ _=>Y) h_o2)<|Rq Y (Zlt (ov Y) ZmY at9)<|R_q (.sl 28<|List.map R28 ([o2.Frame] : List (Vector Int 64))) Y (ZaV Zc5 (.cons (cva<|ov Y) arL (pwD<|arD fun _ => Y) .nil) Y Y)<|bE h fun l3 h_l3 h=>Rx Y (QC (ov Y) (QX (ov Y) tZ_28) Zc5 Y Y Y (fun x=>Zc<|E28 x) Y h_l3)<|Ra Y<|Za<|K5 6 14 70 71 72 Y<|Zk<|R2 ZN Y<|Rm Y<|Za<|⟨_, h, ES [some 0, some 1, some 2] (hhp := .cons Y (Zfc (fk := FK3) (fv := ZeH) (m := best) tZ_64 (fun _=>.dat Y) fun _=>.ren<|ZdJ<|rld Ze6)<|.cons Y (roM D28)<|.cons Y (roM D3) .nil)⟩
    ·
     refine Zw<|?_
     replace h := lx h ▸ ho2
     exact ⟨_, h, ES [some 1]⟩
   ·
    refine Tr<|Rm Y<|Ra Y<|Ra Y<|Za<|?_
    obtain rfl := rt h
    exact Zj (ZE Y (.two (.tmp Y<|View.ownM Y Y D28)<|rb Y))
theorem ZaJ {s : List (Vector Int 64)} {v : Vector Int 64} {r : Int} (h : Qw s v = some r) :
 CSpec Tryz.prog gl0 25 [.sl 28 (List.map R28 s), .agg (List.map C26 v.toList)] (.int .i64 r) := by
 unfold Qw at h
 replace h := Qo h
 refine So Tryz.func25 Y fun w0 A=>Tr<|Rq Y (ZaC (cva<|ov Y) arL tZ_28<|arD fun _ => Y)<|Ra Y<|Za<|J0 (fun j => (.inr j)) ⟨[], []⟩ h (fun h=>?_) fun h=>?_
 ·
  refine K2 0 3 Y<|Tr<|Rm Y<|Rl tZ_28 Zc5 Y<|Rm Y<|Za<|Zf<|?_
  obtain ⟨r1, hl1, ho1⟩ := QO h
  refine L1 (fun i=>⟨[(0, .sl 28 (List.map R28 s)), (3, .rp (List.map C26 v.toList) 0), (7, .int .i64 (s.length : Int)), (8, .int .i64 i)], []⟩) hl1 (ES []) fun n1 i h=>?_
  unfold Qe at h
  refine Tr<|R2 ZH Y<|Za<|Zg<|If h Y (fun h=>?_) fun h=>?_
  ·
   refine Ze<|Zg<|Zf<|K4 0 3 7 8 Y<|Tr<|Rm Y<|Ra Y<|Za<|Zg<|K5 0 3 5 7 8 Y<|Qn (cw := md0) (by kernel_rfl)<|Dq 0 Y (ZP (ov Y) Xn (Qb<|Zl arL) arL)<|D1 1 Zb Y<|D1 2 Zb Y<|bE h fun x h_x h=>Dq 3 Y (ZX (ov Y) (ov Y) Zc5 h_x)<|Dq 4 Y (ZP (ov Y) Xn (Qb<|Zl arL) arL)<|Dq 5 Y (ZoH Zpg (ov Y) (ov Y) (.aggB<|arD fun _ => Y) (.aggB<|arD fun _ => Y) (fkV fun _ => Y) (fkV fun _ => Y)<|eqV fun _ _ => Y)<|Dd<|K6 0 3 5 7 8 16 Y<|If h Y (fun h=>?_) fun h=>?_
   ·
    refine K1 5 Y<|Tr<|Rm Y<|Ra Y<|Za<|?_
    replace h := lx h ▸ ho1
    obtain rfl := rt h
    exact Zj (ZE Y (.one<|rb Y))
   ·
    exact Ze<|K4 0 3 7 8 Y<|Zk<|R2 ZN Y<|Rm Y<|Za<|⟨_, h, ES []⟩
  ·
   refine Zw<|?_
   replace h := lx h ▸ ho1
   exact ⟨(), h, ES []⟩
 ·
  replace h := elr h
  replace h := t0i h
  refine Tr<|Ra Y<|Za<|?_
  obtain rfl := rt h
  exact Zj (ZE Y (.one<|rb Y))
theorem QF {s : List (Vector Int 64)} {v : Vector Int 64} {r : Bool} (h : ZD s v = some r) :
 CSpec Tryz.prog gl0 10 [.sl 28 (List.map R28 s), .agg (List.map C26 v.toList)] (.bool r) := by
 unfold ZD at h
 replace h := Qo h
 refine So Tryz.func10 Y fun w0 A=>Tr<|Rq Y (ZaC (cva<|ov Y) arL tZ_28<|arD fun _ => Y)<|Ra Y<|Za<|K3 0 3 4 Y<|Tr<|Rm Y<|Rq Y (ZP (ov Y) Xn (Qb<|Zl arL) arL)<|bE h fun y h_y h=>Rq Y (Zn (ZaJ h_y)<|.cons (ov Y) (.b Y)<|.cons (ov Y) (.aggB<|arD fun _ => Y) .nil)<|R2 Zga Y<|Ra Y<|Za<|?_
 obtain rfl := rt h
 exact Zj (ZE Y (.one<|rb Y))
theorem Zf2 {l : List api_Memory} {copies : Int} {r : Int × Int} (h : ZaL l copies = some r) :
 CSpec Tryz.prog gl0 11 [.sl 55 (List.map R55 l), .int .i64 copies] (.tuple [.int .i64 r.1, .int .i64 r.2]) := by
 unfold ZaL at h
 replace h := Qo h
 refine So Tryz.func11 Y fun w0 A=>Tr<|Ra Y<|Ra Y<|Za<|Zg<|K2 0 1 Y<|Tr<|Rm Y<|bE h fun y h_y h=>Rq Y (Zn (ZbO h_y)<|.cons (ov Y) (.b Y) .nil)<|Ra Y<|Za<|K3 0 1 6 Y<|Tr<|Rm Y<|R2 QR Y<|Za<|K4 0 1 6 17 Y<|If h Y (fun h=>?_) fun h=>?_
 ·
  refine K1 6 Y<|Tr<|Rm Y<|Ra Y<|Ra Y<|Za<|?_
  obtain rfl := rt h
  exact Zj (ZE Y (.two (rb Y)<|rb Y))
 ·
  refine Ze<|Zg<|K2 0 1 Y<|Tr<|Rm Y<|Rm Y<|Rl tZ_55 ZaB Y<|bE h fun y2 h_y2 h=>Rq Y (Zn (Q9 h_y2)<|.cons (ov Y) (.b Y)<|.cons (ov Y) (.b Y)<|.cons (ov Y) (.b Y) .nil)<|R1 Xv Y<|Za<|K3 0 1 23 Y<|If h Y (fun h=>?_) fun h=>?_
  ·
   refine K0<|Tr<|Ra Y<|Ra Y<|Za<|?_
   obtain rfl := rt h
   exact Zj (ZE Y (.two (rb Y)<|rb Y))
  ·
   refine Ze<|K2 0 1 Y<|Tr<|Ra Y<|Za<|I1 (fun least=>⟨[(0, .sl 55 (List.map R55 l)), (1, .int .i64 copies), (7, .int .i64 least)], []⟩) h (fun h=>?_) fun least h=>?_
   ·
    refine Tr<|Rm Y<|Rl tZ_55 ZaB Y<|Rm Y<|Za<|Zf<|?_
    obtain ⟨r1, hl1, ho1⟩ := QO h
    refine L2 (fun least2 i=>⟨[(0, .sl 55 (List.map R55 l)), (1, .int .i64 copies), (7, .int .i64 least2), (24, .sl 55 (List.map R55 l)), (25, .int .i64 (l.length : Int)), (26, .int .i64 i)], []⟩) hl1 (ES []) fun n1 least2 i h=>?_
    unfold Jk at h
    refine Tr<|R2 ZH Y<|Za<|Zg<|If h Y (fun h=>?_) fun h=>?_
    ·
     refine Ze<|Zg<|Zf<|K6 0 1 7 24 25 26 Y<|Tr<|bE h fun x h_x h=>Rq Y (ZX (ov Y) (ov Y) ZaB h_x)<|Rq Y (ZP (ov Y) Za2 Y Y)<|Rx Y (Ql (row := [_, _, _, _, _]) 0 Y ZhO Y tZ_55)<|Rx Y (Zs (ov Y) (ov Y) (ZK Za2 Y) Y Y Y (Nat.le_of_ble_eq_true Y) (Zc Y) Y)<|Za<|K7 0 1 7 9 24 25 26 Y<|Tr<|Ra Y<|Za<|I1 (fun good=>⟨[(0, .sl 55 (List.map R55 l)), (1, .int .i64 copies), (7, .int .i64 least2), (9, .ptr 0 1 0 0), (10, .int .i64 good), (24, .sl 55 (List.map R55 l)), (25, .int .i64 (l.length : Int)), (26, .int .i64 i)], [some ⟨55, [[.int .i64 x.Slots, .int .i64 x.Limit, .sl 56 (List.map R56 x.Sectors), .sl 3 (List.map R3 x.Wear), .sl 4 (List.map R4 x.Bad)]]⟩]⟩) h (fun h=>?_) fun good h=>?_
     ·
      refine Tr<|Rq Y (Zr (ov Y) Y Y ZdK)<|Rq Y (ZV (ov Y) Y Y Y ZhM Y)<|Rl tZ_4 Zix Y<|Rm Y<|Za<|Zf<|?_
      obtain ⟨r2, hl2, ho2⟩ := QO h
      refine L2 (fun good2 i2=>⟨[(0, .sl 55 (List.map R55 l)), (1, .int .i64 copies), (7, .int .i64 least2), (9, .ptr 0 1 0 0), (10, .int .i64 good2), (24, .sl 55 (List.map R55 l)), (25, .int .i64 (l.length : Int)), (26, .int .i64 i), (31, .sl 4 (List.map R4 x.Bad)), (32, .int .i64 (x.Bad.length : Int)), (33, .int .i64 i2)], [some ⟨55, [[.int .i64 x.Slots, .int .i64 x.Limit, .sl 56 (List.map R56 x.Sectors), .sl 3 (List.map R3 x.Wear), .sl 4 (List.map R4 x.Bad)]]⟩]⟩) hl2 (ES [some 0]) fun n2 good2 i2 h=>?_
      unfold Jj at h
      refine Tr<|R2 ZH Y<|Za<|Zg<|If h Y (fun h=>?_) fun h=>?_
      ·
       refine Ze<|Zg<|Zf<|K11 0 1 7 9 10 24 25 26 31 32 33 Y<|Tr<|bE h fun x2 h_x2 h=>Rq Y (ZX (ov Y) (ov Y) Zix h_x2)<|Rq Y (Zd (ov Y) tS4 Y)<|Ra Y<|Za<|K12 0 1 7 9 10 12 24 25 26 31 32 33 Y<|Tr<|Rm Y<|R1 Xv Y<|Za<|K12 0 1 7 9 10 24 25 26 31 32 33 38 Y<|If h Y (fun h=>?_) fun h=>?_
       ·
        exact K11 0 1 7 9 10 24 25 26 31 32 33 Y<|Zk<|Rm Y<|R2 ZN Y<|Ra Y<|Za<|K11 0 1 7 9 10 24 25 26 31 32 33 Y<|Zk<|R2 ZN Y<|Rm Y<|Za<|⟨_, h, ES [some 0]⟩
       ·
        exact Ze<|K11 0 1 7 9 10 24 25 26 31 32 33 Y<|Zk<|R2 ZN Y<|Rm Y<|Za<|⟨_, h, ES [some 0]⟩
      ·
       refine Zw<|?_
       replace h := lx h ▸ ho2
       exact ⟨_, h, ES [some 0]⟩
     ·
      refine Tr<|Rm Y<|R2 ZaF Y<|Rq Y (ZhT (ov Y) (ov Y) Y)<|Rq Y (Zr (ov Y) Y Y Zet)<|Rq Y (ZV (ov Y) Y Y Y tS3 Y)<|R2 Zft Y<|Ra Y<|Za<|K7 0 1 7 13 24 25 26 Y<|Tr<|Rm Y<|R2 ZH Y<|Rm Y<|Rq Y (.guarded ((decide (least2 < 0)) == false) Y Y Y Y fun h => Zb<|ov Y)<|Rq Y (.guarded ((decide (least2 < 0)) == false) Y Y Y Y fun h => Zb<|ov Y)<|Rq Y (.guarded ((decide (least2 < 0)) == false) Y Y Y Y fun h => ZH (ow Y h)<|ow Y h)<|Rq Y (Zb9 (ov Y) fun hp=>ow Y<|gF hp)<|Za<|K8 0 1 7 13 24 25 26 54 Y<|If h Y (fun h=>?_) fun h=>?_
      ·
       exact K7 0 1 7 13 24 25 26 Y<|Zk<|Rm Y<|Ra Y<|Za<|K6 0 1 7 24 25 26 Y<|Zk<|R2 ZN Y<|Rm Y<|Za<|⟨_, h, ES []⟩
      ·
       exact Ze<|K6 0 1 7 24 25 26 Y<|Zk<|R2 ZN Y<|Rm Y<|Za<|⟨_, h, ES []⟩
    ·
     refine Zw<|?_
     replace h := lx h ▸ ho1
     exact ⟨_, h, ES []⟩
   ·
    refine Tr<|Rm Y<|Rm Y<|Rl tZ_55 ZaB Y<|R2 Zft Y<|Rm Y<|bE h fun q h_q h=>Rq Y (Zf1 (ov Y) (ov Y) h_q)<|Ra Y<|Ra Y<|Za<|?_
    obtain rfl := rt h
    exact Zj (ZE Y (.two (rb Y)<|rb Y))
theorem Ze1 {l : List (Vector Int 64)} {r : Bool} (h : XW l = some r) :
 CSpec Tryz.prog gl0 12 [.sl 28 (List.map R28 l)] (.bool r) := by
 unfold XW at h
 replace h := Qo h
 refine So Tryz.func12 Y fun w0 A=>Tr<|Ra Y<|Za<|J0 (fun j => (.inr j)) ⟨[], []⟩ h (fun h=>?_) fun h=>?_
 ·
  refine K1 0 Y<|Tr<|Ra Y<|Za<|Zf<|?_
  obtain ⟨r1, hl1, ho1⟩ := QO h
  refine L1 (fun i=>⟨[(0, .sl 28 (List.map R28 l)), (3, .int .i64 i)], []⟩) hl1 (ES []) fun n1 i h=>?_
  unfold JC at h
  refine Zg<|Tr<|Rm Y<|Rm Y<|Rl tZ_28 Zc5 Y<|R2 ZH Y<|Za<|K3 0 3 11 Y<|If h Y (fun h=>?_) fun h=>?_
  ·
   refine Ze<|Zg<|Zf<|K2 0 3 Y<|Tr<|Rm Y<|Rm Y<|R2 ZaF Y<|bE h fun x h_x h=>Rq Y (ZX (ov Y) (ov Y) Zc5 h_x)<|Rq Y (ZP (ov Y) Xn (Qb<|Zl arL) arL)<|bE h fun y h_y h=>Rq Y (Zn (ZcH h_y)<|.cons (ov Y) (.aggB<|arD fun _ => Y) .nil)<|Rm Y<|Rq Y (Zi (ov Y) Y)<|Rq Y (Zi (ov Y) Y)<|Ra Y<|Ra Y<|Za<|K3 0 3 4 Y<|Tr<|Rm Y<|Rm Y<|bE h fun x2 h_x2 h=>Rq Y (ZX (ov Y) (ov Y) Zc5 h_x2)<|Rq Y (ZP (ov Y) Xn (Qb<|Zl arL) arL)<|bE h fun y2 h_y2 h=>Rq Y (Zn (ZcH h_y2)<|.cons (ov Y) (.aggB<|arD fun _ => Y) .nil)<|Rm Y<|Rq Y (Zi (ov Y) Y)<|Rq Y (Zi (ov Y) Y)<|Ra Y<|Ra Y<|Za<|K4 0 3 4 6 Y<|Tr<|Rm Y<|Rm Y<|R2 ZN Y<|R2 QR Y<|Za<|K3 0 3 34 Y<|If h Y (fun h=>?_) fun h=>?_
   ·
    refine K0<|Tr<|Ra Y<|Za<|?_
    replace h := lx h ▸ ho1
    obtain rfl := rt h
    exact Zj (ZE Y (.one<|rb Y))
   ·
    exact Ze<|K2 0 3 Y<|Zk<|Rm Y<|R2 ZN Y<|Ra Y<|Za<|⟨_, h, ES []⟩
  ·
   refine Zw<|?_
   replace h := lx h ▸ ho1
   exact ⟨(), h, ES []⟩
 ·
  replace h := elr h
  replace h := t0i h
  refine Tr<|Ra Y<|Za<|?_
  obtain rfl := rt h
  exact Zj (ZE Y (.one<|rb Y))
theorem Zca {l : List api_Memory} {copies : Int} {frames : List (Vector Int 64)} {power : Int} {r : Bool} (h : Xe l copies frames power = some r) :
 CSpec Tryz.prog gl0 3 [.sl 55 (List.map R55 l), .int .i64 copies, .sl 28 (List.map R28 frames), .int .i64 power] (.bool r) := by
 unfold Xe at h
 replace h := Qo h
 refine So Tryz.func3 Y fun w0 A=>Tr<|Ra Y<|Za<|Zg<|K4 0 1 2 3 Y<|Tr<|bE h fun y h_y h=>Rq Y (Zn (ZiN h_y) .nil)<|R1 Xv Y<|Za<|K5 0 1 2 3 27 Y<|If h Y (fun h=>?_) fun h=>?_
 ·
  refine K0<|Tr<|Ra Y<|Za<|?_
  obtain rfl := rt h
  exact Zj (ZE Y (.one<|rb Y))
 ·
  refine Ze<|Zg<|K4 0 1 2 3 Y<|Tr<|Rm Y<|Rl tZ_28 Zc5 Y<|R2 Zaw Y<|Rm Y<|Rq Y (.guarded ((decide (40 < (frames.length : Int))) == false) Y Y Y Y fun h => Zb<|ov Y)<|bE h fun y2 h_y2 h=>Rq Y (.guarded ((decide (40 < (frames.length : Int))) == false) Y Y Y Y fun h => Zn (ZhJ<|gdT h_y2 h)<|.cons (ow Y h) (.b Y)<|.cons (ov Y) (.b Y) .nil)<|Rq Y (.guarded ((decide (40 < (frames.length : Int))) == false) Y Y Y Y fun h => Xv<|ow Y h)<|Rq Y (Zb9 (ov Y) fun hp=>ow Y<|gF hp)<|Rm Y<|Rq Y (.guarded (((decide (40 < (frames.length : Int))) || (!y2)) == false) Y Y Y Y fun h => Zb<|ov Y)<|Rq Y (.guarded (((decide (40 < (frames.length : Int))) || (!y2)) == false) Y Y Y Y fun h => ZH (ow Y h)<|ov Y)<|Rq Y (Zb9 (ov Y) fun hp=>ow Y<|gF hp)<|Rm Y<|Rq Y (.guarded ((((decide (40 < (frames.length : Int))) || (!y2)) || (decide (copies < 1))) == false) Y Y Y Y fun h => Zb<|ov Y)<|Rq Y (.guarded ((((decide (40 < (frames.length : Int))) || (!y2)) || (decide (copies < 1))) == false) Y Y Y Y fun h => Zb<|ov Y)<|Rq Y (.guarded ((((decide (40 < (frames.length : Int))) || (!y2)) || (decide (copies < 1))) == false) Y Y Y Y fun h => ZgU (QX (ow Y h) tZ_55) ZaB<|Zdu _ _)<|Rq Y (.guarded ((((decide (40 < (frames.length : Int))) || (!y2)) || (decide (copies < 1))) == false) Y Y Y Y fun h => Zaw (ow Y h)<|ow Y h)<|Rq Y (Zb9 (ov Y) fun hp=>ow Y<|gF hp)<|Rm Y<|Rq Y (.guarded (((((decide (40 < (frames.length : Int))) || (!y2)) || (decide (copies < 1))) || (decide ((l.length : Int) < copies))) == false) Y Y Y Y fun h => Zb<|ov Y)<|Rq Y (.guarded (((((decide (40 < (frames.length : Int))) || (!y2)) || (decide (copies < 1))) || (decide ((l.length : Int) < copies))) == false) Y Y Y Y fun h => ZH (ow Y h)<|ov Y)<|Rq Y (Zb9 (ov Y) fun hp=>ow Y<|gF hp)<|Rm Y<|Rq Y (.guarded ((((((decide (40 < (frames.length : Int))) || (!y2)) || (decide (copies < 1))) || (decide ((l.length : Int) < copies))) || (decide (power < 0))) == false) Y Y Y Y fun h => Zb<|ov Y)<|Rq Y (.guarded ((((((decide (40 < (frames.length : Int))) || (!y2)) || (decide (copies < 1))) || (decide ((l.length : Int) < copies))) || (decide (power < 0))) == false) Y Y Y Y fun h => Zaw (ow Y h)<|ov Y)<|Rq Y (Zb9 (ov Y) fun hp=>ow Y<|gF hp)<|Za<|K5 0 1 2 3 53 Y<|If h Y (fun h=>?_) fun h=>?_
  ·
   refine K0<|Tr<|Ra Y<|Za<|?_
   obtain rfl := rt h
   exact Zj (ZE Y (.one<|rb Y))
  ·
   refine Ze<|K4 0 1 2 3 Y<|Tr<|Ra Y<|Za<|J1 (fun j => (.inr j)) (fun last=>⟨[(0, .sl 55 (List.map R55 l)), (1, .int .i64 copies), (2, .sl 28 (List.map R28 frames)), (3, .int .i64 power), (9, .int .i64 last)], []⟩) h (fun h=>?_) fun last h=>?_
   ·
    refine Tr<|Rm Y<|Rl tZ_28 Zc5 Y<|Rm Y<|Za<|Zf<|?_
    obtain ⟨r1, hl1, ho1⟩ := QO h
    refine L2 (fun last2 i=>⟨[(0, .sl 55 (List.map R55 l)), (1, .int .i64 copies), (2, .sl 28 (List.map R28 frames)), (3, .int .i64 power), (9, .int .i64 last2), (54, .sl 28 (List.map R28 frames)), (55, .int .i64 (frames.length : Int)), (56, .int .i64 i)], []⟩) hl1 (ES []) fun n1 last2 i h=>?_
    unfold ZY at h
    refine Tr<|R2 ZH Y<|Za<|Zg<|If h Y (fun h=>?_) fun h=>?_
    ·
     refine Ze<|Zg<|Zf<|K8 0 1 2 3 9 54 55 56 Y<|Tr<|bE h fun x h_x h=>Rq Y (ZX (ov Y) (ov Y) Zc5 h_x)<|Rq Y (ZP (ov Y) Xn (Qb<|Zl arL) arL)<|Rx Y (Ql (row := (List.map C26 (Vector.replicate 64 0).toList)) 0 Y Zd3 Y tZ_28)<|Rx Y (Zs (ov Y) (ov Y) (ZK Xn arL) Y Y Y (J3 (Zl arL) arL) (Zc<|arC fun _ => Y)<|XQ<|Eq.trans arL<|Eq.symm arL)<|Za<|K9 0 1 2 3 9 11 54 55 56 Y<|Tr<|Rq Y (QS (ov Y) Y Y Y Xn (Qb<|Zl arL) arL (hns := (nsM fun _ => Y)))<|bE h fun y3 h_y3 h=>Rq Y (Zn (ZcH h_y3)<|.cons (ov Y) (.aggB<|arD fun _ => Y) .nil)<|Rm Y<|Rq Y (Zi (ov Y) Y)<|Rq Y (Zi (ov Y) Y)<|Ra Y<|Ra Y<|Za<|Zg<|K10 0 1 2 3 9 11 12 54 55 56 Y<|Tr<|Rq Y (QS (ov Y) Y Y Y Xn (Qb<|Zl arL) arL (hns := (nsM fun _ => Y)))<|bE h fun y4 h_y4 h=>Rq Y (Zn (ZhK h_y4)<|.cons (ov Y) (.aggB<|arD fun _ => Y) .nil)<|R1 Xv Y<|Rm Y<|Rq Y (.guarded ((!y4) == false) Y Y Y Y fun h => Zb<|ov Y)<|Rq Y (.guarded ((!y4) == false) Y Y Y Y fun h => Zb<|ov Y)<|Rq Y (.guarded ((!y4) == false) Y Y Y Y fun h => Zho (ow Y h)<|ow Y h)<|Rq Y (Zb9 (ov Y) fun hp=>ow Y<|gF hp)<|Za<|K9 0 1 2 3 12 54 55 56 72 Y<|If h Y (fun h=>?_) fun h=>?_
     ·
      refine K0<|Tr<|Ra Y<|Za<|?_
      replace h := lx h ▸ ho1
      obtain rfl := rt h
      exact Zj (ZE Y (.one<|rb Y))
     ·
      exact Ze<|K8 0 1 2 3 12 54 55 56 Y<|Zk<|Rm Y<|Ra Y<|Za<|K8 0 1 2 3 9 54 55 56 Y<|Zk<|R2 ZN Y<|Rm Y<|Za<|⟨_, h, ES []⟩
    ·
     refine Zw<|?_
     replace h := lx h ▸ ho1
     exact ⟨_, h, ES []⟩
   ·
    replace h := elr h
    replace h := t1i h
    refine Tr<|Rm Y<|Rm Y<|Rm Y<|Rm Y<|bE h fun y5 h_y5 h=>Rq Y (Zn (ZfJ h_y5)<|.cons (ov Y) (.b Y)<|.cons (ov Y) (.b Y)<|.cons (ov Y) (.b Y)<|.cons (ov Y) (.b Y) .nil)<|Rm Y<|Rq Y (Zi (ov Y) Y)<|Rq Y (Zi (ov Y) Y)<|Rq Y (Zi (ov Y) Y)<|Ra Y<|Ra Y<|Ra Y<|Za<|Zg<|K7 0 1 2 9 14 15 16 Y<|Tr<|Rm Y<|R1 Xv Y<|Za<|K7 0 1 2 9 14 15 85 Y<|If h Y (fun h=>?_) fun h=>?_
    ·
     refine K0<|Tr<|Ra Y<|Za<|?_
     obtain rfl := rt h
     exact Zj (ZE Y (.one<|rb Y))
    ·
     refine Ze<|K6 0 1 2 9 14 15 Y<|Tr<|Rm Y<|bE h fun y6 h_y6 h=>Rq Y (Zn (Zej h_y6)<|.cons (ov Y) (.b Y) .nil)<|Rm Y<|Rq Y (Zi (ov Y) Y)<|Rq Y (Zi (ov Y) Y)<|Ra Y<|Ra Y<|Za<|Zg<|K8 0 1 2 9 14 15 17 18 Y<|Tr<|Rm Y<|R2 QR Y<|Za<|K8 0 1 2 9 14 15 17 92 Y<|If h Y (fun h=>?_) fun h=>?_
     ·
      refine K0<|Tr<|Ra Y<|Za<|?_
      obtain rfl := rt h
      exact Zj (ZE Y (.one<|rb Y))
     ·
      refine Ze<|J0 (fun j => (.inr j)) ⟨[(0, .sl 55 (List.map R55 l)), (1, .int .i64 copies), (2, .sl 28 (List.map R28 frames)), (9, .int .i64 last), (14, .sl 28 (List.map R28 y5.1)), (15, .sl 55 (List.map R55 y5.2.1)), (17, .sl 28 (List.map R28 y6.1))], []⟩ h (fun h=>?_) fun h=>?_
      ·
       refine K7 0 1 2 9 14 15 17 Y<|Tr<|Rm Y<|Rl tZ_28 Zc5 Y<|Rm Y<|Za<|Zf<|?_
       obtain ⟨r2, hl2, ho2⟩ := QO h
       refine L1 (fun i2=>⟨[(0, .sl 55 (List.map R55 l)), (1, .int .i64 copies), (2, .sl 28 (List.map R28 frames)), (9, .int .i64 last), (14, .sl 28 (List.map R28 y5.1)), (15, .sl 55 (List.map R55 y5.2.1)), (17, .sl 28 (List.map R28 y6.1)), (93, .sl 28 (List.map R28 y6.1)), (94, .int .i64 (y6.1.length : Int)), (95, .int .i64 i2)], []⟩) hl2 (ES []) fun n2 i2 h=>?_
       unfold Z7 at h
       refine Tr<|R2 ZH Y<|Za<|Zg<|If h Y (fun h=>?_) fun h=>?_
       ·
        refine Ze<|Zg<|Zf<|K10 0 1 2 9 14 15 17 93 94 95 Y<|Tr<|bE h fun x2 h_x2 h=>Rq Y (ZX (ov Y) (ov Y) Zc5 h_x2)<|Rq Y (ZP (ov Y) Xn (Qb<|Zl arL) arL)<|Rx Y (Ql (row := (List.map C26 (Vector.replicate 64 0).toList)) 0 Y Zd3 Y tZ_28)<|Rx Y (Zs (ov Y) (ov Y) (ZK Xn arL) Y Y Y (J3 (Zl arL) arL) (Zc<|arC fun _ => Y)<|XQ<|Eq.trans arL<|Eq.symm arL)<|Za<|K11 0 1 2 9 14 15 17 20 93 94 95 Y<|Tr<|Rm Y<|Rq Y (QS (ov Y) Y Y Y Xn (Qb<|Zl arL) arL (hns := (nsM fun _ => Y)))<|bE h fun y7 h_y7 h=>Rq Y (Zn (QF h_y7)<|.cons (ov Y) (.b Y)<|.cons (ov Y) (.aggB<|arD fun _ => Y) .nil)<|R1 Xv Y<|Za<|K11 0 1 2 9 14 15 17 93 94 95 102 Y<|If h Y (fun h=>?_) fun h=>?_
        ·
         refine K0<|Tr<|Ra Y<|Za<|?_
         replace h := lx h ▸ ho2
         obtain rfl := rt h
         exact Zj (ZE Y (.one<|rb Y))
        ·
         exact Ze<|K10 0 1 2 9 14 15 17 93 94 95 Y<|Zk<|R2 ZN Y<|Rm Y<|Za<|⟨_, h, ES []⟩
       ·
        refine Zw<|?_
        replace h := lx h ▸ ho2
        exact ⟨(), h, ES []⟩
      ·
       replace h := elr h
       replace h := t0i h
       refine Tr<|Rm Y<|Rm Y<|bE h fun y8 h_y8 h=>Rq Y (Zn (Zf2 h_y8)<|.cons (ov Y) (.b Y)<|.cons (ov Y) (.b Y) .nil)<|Rm Y<|Rq Y (Zi (ov Y) Y)<|Rq Y (Zi (ov Y) Y)<|Ra Y<|Ra Y<|Za<|Zg<|K8 1 2 9 14 15 17 18 21 Y<|Tr<|Rm Y<|R2 QR Y<|Za<|K8 1 2 9 14 15 17 21 111 Y<|If h Y (fun h=>?_) fun h=>?_
       ·
        refine K0<|Tr<|Ra Y<|Za<|?_
        obtain rfl := rt h
        exact Zj (ZE Y (.one<|rb Y))
       ·
        refine Ze<|J0 (fun j => (.inr j)) ⟨[(1, .int .i64 copies), (9, .int .i64 last), (15, .sl 55 (List.map R55 y5.2.1))], []⟩ h (fun h=>?_) fun h=>?_
        ·
         refine K7 1 2 9 14 15 17 21 Y<|Tr<|Rm Y<|bE h fun y9 h_y9 h=>Rq Y (Zn (Ze1 h_y9)<|.cons (ov Y) (.b Y) .nil)<|Za<|K7 1 9 14 15 17 21 113 Y<|If h Y (fun h=>?_) fun h=>?_
         ·
          refine K6 1 9 14 15 17 21 Y<|Tr<|Rm Y<|Rl tZ_28 Zc5 Y<|Rm Y<|R2 ZaF Y<|Rq Y (ZhT (ov Y) (ov Y) Y)<|R2 ZaF Y<|Rq Y (ZhT (ov Y) (ov Y) Y)<|Ra Y<|Za<|Zf<|?_
          obtain ⟨r3, hl3, ho3⟩ := QO h
          refine L1 (fun k=>⟨[(1, .int .i64 copies), (9, .int .i64 last), (14, .sl 28 (List.map R28 y5.1)), (15, .sl 55 (List.map R55 y5.2.1)), (17, .sl 28 (List.map R28 y6.1)), (22, .int .i64 k)], []⟩) hl3 (ES []) fun n3 k h=>?_
          unfold Qq at h
          refine Zg<|Tr<|Rm Y<|Rm Y<|Rl tZ_28 Zc5 Y<|R2 ZH Y<|Za<|K7 1 9 14 15 17 22 124 Y<|If h Y (fun h=>?_) fun h=>?_
          ·
           refine Ze<|Zg<|Zf<|K6 1 9 14 15 17 22 Y<|Tr<|Rm Y<|Rm Y<|Rm Y<|bE h fun x3 h_x3 h=>Rq Y (ZX (ov Y) (ov Y) Zc5 h_x3)<|Rq Y (ZP (ov Y) Xn (Qb<|Zl arL) arL)<|bE h fun y10 h_y10 h=>Rq Y (Zn (QF h_y10)<|.cons (ov Y) (.b Y)<|.cons (ov Y) (.aggB<|arD fun _ => Y) .nil)<|R1 Xv Y<|Za<|K7 1 9 14 15 17 22 133 Y<|If h Y (fun h=>?_) fun h=>?_
           ·
            refine K0<|Tr<|Ra Y<|Za<|?_
            replace h := lx h ▸ ho3
            obtain rfl := rt h
            exact Zj (ZE Y (.one<|rb Y))
           ·
            exact Ze<|K6 1 9 14 15 17 22 Y<|Zk<|Rm Y<|R2 ZN Y<|Ra Y<|Za<|⟨_, h, ES []⟩
          ·
           refine Zw<|?_
           replace h := lx h ▸ ho3
           exact ⟨(), h, ES []⟩
         ·
          exact Ze<|⟨(), h, ES []⟩
        ·
         replace h := elr h
         replace h := t0i h
         refine Tr<|Rm Y<|Rm Y<|bE h fun y11 h_y11 h=>?_
         rcases y11 with y11 | y11
         ·
          replace h := ell h
          refine Rx Y (Z4 [] (Zci h_y11) (.cons (ov Y) (.dat Y)<|.cons (ov Y) (.dat Y) .nil) .nil Y .nil Y Y<|Q6<|rlc (.dat Y)<|rlc (.dat Y) rln)<|Rm Y<|Rq Y (Zi (ov Y) Y)<|Rq Y (Zi (ov Y) Y)<|Ra Y<|Ra Y<|Za<|Zg<|K3 9 18 23 Y<|Tr<|Rm Y<|R2 QR Y<|Za<|K3 9 23 141 Y<|If h Y (fun h=>?_) fun h=>?_
          ·
           refine K0<|Tr<|Ra Y<|Za<|?_
           obtain rfl := rt h
           exact Zj (ZE Y (.one<|rb Y))
          ·
           refine Ze<|K2 9 23 Y<|Tr<|Rm Y<|R2 ZN Y<|bE h fun l2 h_l2 h=>Rx Y (ZiH [none] (r := 0) (f := R3) (z0 := 0) Y (ov Y) (ov Y) Q5 Y tZ3 Y Y h_l2)<|bE h fun y12 h_y12 h=>Rq Y (J5 (ZdL h_y12) (.tuple<|by simp only [List.mem_cons, List.not_mem_nil, or_false, forall_eq_or_imp, forall_eq]; exact ⟨(Zfn (fun _ => .int)), .int⟩)<|.cons (ov Y) (Dat.view<|.b Y)<|.cons (ov Y) (View.ownM Y Y D3) .nil)<|Rm Y<|Rq Y (Zi (ov Y) Y)<|Rq Y (Zi (ov Y) Y)<|Rx Y (Ql (row := (List.map C26 (Vector.replicate 64 0).toList)) 1 Y Zd3 Y tZ_28)<|Rx Y (Zs (ov Y) (ov Y) (ZK Xn arL) Y Y Y (J3 (Zl arL) arL) (Zc<|arC fun _ => Y)<|XQ<|Eq.trans arL<|Eq.symm arL)<|Ra Y<|Za<|Zg<|K3 18 23 24 Y<|Tr<|Rm Y<|R2 QR Y<|Za<|K3 23 24 150 Y<|If h Y (fun h=>?_) fun h=>?_
           ·
            refine K0<|Tr<|Ra Y<|Za<|?_
            obtain rfl := rt h
            exact Zj (ZE Y (.one<|rb Y))
           ·
            exact Ze<|(Zmu h).elim
         ·
          replace h := elr h
          refine Rx Y (Z4 [] (Zch h_y11) (.cons (ov Y) (.dat Y)<|.cons (ov Y) (.dat Y) .nil) .nil Y (.lent 0 (.inr ⟨Nat.le_of_ble_eq_true Y, Y⟩) Y (ro1 (by exact tZ_75.symm)<|rlc (.own _<|.inr ⟨Nat.le_of_ble_eq_true Y, Y⟩)<|rlc (.own _<|.inr ⟨Nat.le_of_ble_eq_true Y, Y⟩)<|rlc (.dat Y)<|rlc (.dat Y)<|rlc (.dat Y)<|rlc (.dat Y)<|rlc (.dat Y) rln)<|.lent 1 (.inr ⟨Nat.le_of_ble_eq_true Y, Y⟩) Y (roO Xj)<|.lent 2 (.inr ⟨Nat.le_of_ble_eq_true Y, Y⟩) Y (roM D78) .nil) Y Y<|Q6<|rlc (.ptr _ _ _<|.inr ⟨Nat.le_of_ble_eq_true Y, Y⟩)<|rlc (.dat Y) rln)<|Rm Y<|Rq Y (Zi (ov Y) Y)<|Rq Y (Zi (ov Y) Y)<|Ra Y<|Ra Y<|Za<|Zg<|K3 9 18 23 Y<|QZ [some ⟨75, [[.own 1 y11.1.bank.memories.length, .own 2 y11.1.bank.spots.length, .int .i64 y11.1.copies, .bool y11.1.frozen, .bool y11.1.stopped, .int .i64 y11.1.last, .bool y11.1.some_]]⟩, some ⟨55, List.map O55 y11.1.bank.memories⟩, some ⟨78, List.map R78 y11.1.bank.spots⟩] Y<|Tr<|Rm Y<|R2 QR Y<|Za<|K3 9 23 141 Y<|If h Y (fun h=>?_) fun h=>?_
          ·
           refine K0<|Tr<|Ra Y<|Za<|?_
           obtain rfl := rt h
           exact Zj (ZE Y (.one<|rb Y))
          ·
           refine Ze<|K2 9 23 Y<|Tr<|Rm Y<|R2 ZN Y<|bE h fun l3 h_l3 h=>Rx Y (ZiH [none] (r := 3) (f := R3) (z0 := 0) Y (ov Y) (ov Y) Q5 Y tZ3 Y Y h_l3)<|bE h fun y13 h_y13 h=>Rq Y (J5 (ZdL h_y13) (.tuple<|by simp only [List.mem_cons, List.not_mem_nil, or_false, forall_eq_or_imp, forall_eq]; exact ⟨(Zfn (fun _ => .int)), .int⟩)<|.cons (ov Y) (Dat.view<|.b Y)<|.cons (ov Y) (View.ownM Y Y D3) .nil)<|Rm Y<|Rq Y (Zi (ov Y) Y)<|Rq Y (Zi (ov Y) Y)<|Rx Y (Ql (row := (List.map C26 (Vector.replicate 64 0).toList)) 4 Y Zd3 Y tZ_28)<|Rx Y (Zs (ov Y) (ov Y) (ZK Xn arL) Y Y Y (J3 (Zl arL) arL) (Zc<|arC fun _ => Y)<|XQ<|Eq.trans arL<|Eq.symm arL)<|Ra Y<|Za<|Zg<|K3 18 23 24 Y<|QZ [some ⟨75, [[.own 1 y11.1.bank.memories.length, .own 2 y11.1.bank.spots.length, .int .i64 y11.1.copies, .bool y11.1.frozen, .bool y11.1.stopped, .int .i64 y11.1.last, .bool y11.1.some_]]⟩, some ⟨55, List.map O55 y11.1.bank.memories⟩, some ⟨78, List.map R78 y11.1.bank.spots⟩, some ⟨3, List.map R3 l3⟩, some ⟨28, [(List.map C26 y13.1.toList)]⟩] Y<|Tr<|Rm Y<|R2 QR Y<|Za<|K3 23 24 150 Y<|If h Y (fun h=>?_) fun h=>?_
           ·
            refine K0<|Tr<|Ra Y<|Za<|?_
            obtain rfl := rt h
            exact Zj (ZE Y (.one<|rb Y))
           ·
            refine Ze<|K2 23 24 Y<|Tr<|Rm Y<|Rq Y (QS (ov Y) Y Y Y Xn (Qb<|Zl arL) arL (hns := (nsM fun _ => Y)))<|bE h fun y14 h_y14 h=>Rx Y (Z4 [0, 1, 2] (Zax h_y14) (.cons (ov Y) (.ptr _ _ _ Y)<|.cons (ov Y) (ZdJ<|rld<|arD fun _ => Y)<|.cons (ov Y) (.dat Y) .nil) (.cons Y (ro1 (by exact tZ_75.symm)<|rlc (.own _ Y)<|rlc (.own _ Y)<|rlc (.dat Y)<|rlc (.dat Y)<|rlc (.dat Y)<|rlc (.dat Y)<|rlc (.dat Y) rln)<|.cons Y (roO Xj)<|.cons Y (roM D78) .nil) Y (.lent 0 (.inl Y) Y (ro1 (by exact tZ_75.symm)<|rlc (.own _<|.inr ⟨Nat.le_of_ble_eq_true Y, Y⟩)<|rlc (.own _<|.inr ⟨Nat.le_of_ble_eq_true Y, Y⟩)<|rlc (.dat Y)<|rlc (.dat Y)<|rlc (.dat Y)<|rlc (.dat Y)<|rlc (.dat Y) rln)<|.none<|.none<|.keep Y Y<|.keep Y Y<|.lent 3 (.inr ⟨Nat.le_of_ble_eq_true Y, Y⟩) Y (roO Xj)<|.lent 4 (.inr ⟨Nat.le_of_ble_eq_true Y, Y⟩) Y (roM D78) .nil) Y Y<|Q6<|rld Y)<|Rm Y<|Rq Y (Zi (ov Y) Y)<|Rq Y (Zi (ov Y) Y)<|Rq Y (Zi (ov Y) Y)<|Ra Y<|Ra Y<|Za<|Zg<|K4 16 18 23 24 Y<|QZ [some ⟨75, [[.own 5 y14.2.2.2.bank.memories.length, .own 6 y14.2.2.2.bank.spots.length, .int .i64 y14.2.2.2.copies, .bool y14.2.2.2.frozen, .bool y14.2.2.2.stopped, .int .i64 y14.2.2.2.last, .bool y14.2.2.2.some_]]⟩, none, none, some ⟨3, List.map R3 l3⟩, some ⟨28, [(List.map C26 y13.1.toList)]⟩, some ⟨55, List.map O55 y14.2.2.2.bank.memories⟩, some ⟨78, List.map R78 y14.2.2.2.bank.spots⟩] Y<|Tr<|Rm Y<|R2 QR Y<|Rm Y<|Rq Y (.guarded ((!decide (y14.2.2.1 = 0)) == false) Y Y Y Y fun h => Zb<|ov Y)<|Rq Y (.guarded ((!decide (y14.2.2.1 = 0)) == false) Y Y Y Y fun h => Xv<|ow Y h)<|Rq Y (Zb9 (ov Y) fun hp=>ow Y<|gF hp)<|Za<|K3 23 24 163 Y<|If h Y (fun h=>?_) fun h=>?_
            ·
             refine K0<|Tr<|Ra Y<|Za<|?_
             obtain rfl := rt h
             exact Zj (ZE Y (.one<|rb Y))
            ·
             refine Ze<|K2 23 24 Y<|Tr<|Rm Y<|bE h fun y15 h_y15 h=>Rx Y (Z4 [0, 5, 6] (J7 h_y15) (.cons (ov Y) (.ptr _ _ _ Y) .nil) (.cons Y (ro1 (by exact tZ_75.symm)<|rlc (.own _ Y)<|rlc (.own _ Y)<|rlc (.dat Y)<|rlc (.dat Y)<|rlc (.dat Y)<|rlc (.dat Y)<|rlc (.dat Y) rln)<|.cons Y (roO Xj)<|.cons Y (roM D78) .nil) Y (.lent 0 (.inl Y) Y (ro1 (by exact tZ_75.symm)<|rlc (.dat Y)<|rlc (.own _<|.inr ⟨Nat.le_of_ble_eq_true Y, Y⟩)<|rlc (.dat Y)<|rlc (.dat Y)<|rlc (.dat Y)<|rlc (.dat Y)<|rlc (.dat Y) rln)<|.none<|.none<|.keep Y Y<|.keep Y Y<|.none<|.none<|.lent 3 (.inr ⟨Nat.le_of_ble_eq_true Y, Y⟩) Y (roM D78) .nil) Y Y<|.dat Y)<|bE h fun y16 h_y16 h=>Rq Y (Zn (Zej h_y16)<|.cons (ov Y) (.b Y) .nil)<|Rm Y<|Rq Y (Zi (ov Y) Y)<|Rq Y (Zi (ov Y) Y)<|Ra Y<|Ra Y<|Za<|K3 18 24 25 Y<|Tr<|Rm Y<|R2 Za1 Y<|Rm Y<|Rq Y (.guarded ((decide (y16.2 = 0)) == true) Y Y Y Y fun h => Zb<|ov Y)<|Rq Y (.guarded ((decide (y16.2 = 0)) == true) Y Y Y Y fun h => QS (ov Y) Y Y Y Xn (Qb<|Zl arL) arL (hns := (nsM fun _ => Y)))<|bE h fun y17 h_y17 h=>Rq Y (.guarded ((decide (y16.2 = 0)) == true) Y Y Y Y fun h => Zn (QF<|gdT h_y17 h)<|.cons (ow Y h) (.b Y)<|.cons (ow Y h) (.aggB<|arD fun _ => Y) .nil)<|Rq Y (Zb2 (ov Y) fun hp=>ow Y<|gT hp)<|Ra Y<|Za<|?_
             obtain rfl := rt h
             exact Zj (ZE Y (.one<|rb Y))
end Go.Proofs.YtjfoenlooacoiabGreatDoor
