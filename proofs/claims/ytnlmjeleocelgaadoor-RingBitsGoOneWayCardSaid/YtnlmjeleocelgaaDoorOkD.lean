/- A text of the proof: a verified executor of the program form, or the contracts of the functions that the law reaches. -/
import Derived.Test.YtnlmjeleocelgaaDoorOkDb
set_option linter.all false
namespace Go.Proofs.YtnlmjeleocelgaaDoor
open Go Go.Vx
set_option maxRecDepth 10000
set_option maxHeartbeats 2000000
set_option linter.unusedVariables false
theorem Zf7 {p : Vector Int 96} {f : Vector Int 64} {r : (Vector Int 96)} (h : Zcl p f = some r) :
 GSpec Tryd.prog gl0 63 [.ptr 0 1 0 0, .rp (List.map C42 f.toList) 0] [some ⟨109, [(List.map C5 p.toList)]⟩] (.tuple []) [some ⟨109, [(List.map C5 r.toList)]⟩] := by
 unfold Zcl at h
 replace h := Qa h
 refine Qt (by kernel_rfl) Tryd.func63 Y Y<|?_
 intro w0 A W φ0
 refine Tr<|Rm Y<|Za<|Zi<|?_
 obtain ⟨r1, hl1, ho1⟩ := Q2 h
 refine L2 (fun o i=>⟨[(0, .ptr 0 1 0 0), (1, .rp (List.map C42 f.toList) 0), (5, .int .i64 i)], [some ⟨109, [(List.map C5 o.toList)]⟩]⟩) hl1 (ES [some 0]) fun n1 o i h=>?_
 unfold Zbj at h
 refine Tr<|R2 ZX Y<|Za<|Zj<|If h Y (fun h=>?_) fun h=>?_
 ·
  exact Zl<|Zj<|Zi<|K3 0 1 5 Y<|Tr<|Rm Y<|Ra Y<|Za<|K4 0 1 4 5 Y<|Zu<|Rm Y<|Rm Y<|Rm Y<|Rm Y<|R1 ZA Y<|bE h fun x h_x h=>Rq Y (Qx (ov Y) (ov Y) JC h_x)<|Rq Y (Zd (ov Y) Zau<|Qc<|QW (o := 0) (o' := (i.toNat * 1)) (Zr arL)<|Q5 h_x)<|bE h fun y h_y h=>Rx Y (ZC [0] (ZdC h_y) (.cons (ov Y) (.ptr _ _ _ Y)<|.cons (ov Y) (.dat Y)<|.cons (ov Y) (.dat Y) .nil) (.cons Y (ro1 (by exact Eq.trans (b := 96) arL tZ_109.symm)<|rld<|arD fun _ => Y) .nil) Y (.lent 0 (.inl Y) Y (ro1 (by exact Eq.trans (b := 96) arL tZ_109.symm)<|rld<|arD fun _ => Y) .nil) Y Y<|Xc<|rld Y)<|Za<|K3 0 1 5 Y<|Zu<|R2 ZN Y<|Rm Y<|Za<|⟨_, h, ES [some 0]⟩
 ·
  refine ZI<|?_
  replace h := lx h ▸ ho1
  obtain rfl := rt h
  exact Zhn [some 0] Y .nil (.cons Y (ro1 (by exact Eq.trans (b := 96) arL tZ_109.symm)<|rld<|arD fun _ => Y) .nil) Y Y<|Xc rln
theorem ZfK {f : Vector Int 64} {r : (List Int) × Int} (h : JI f = some r) :
 CSpec Tryd.prog gl0 37 [.agg (List.map C42 f.toList)] (.tuple [.sl 5 (List.map R5 r.1), .int .i64 r.2]) := by
 unfold JI at h
 replace h := Qa h
 refine So Tryd.func37 Y fun w0 A=>Tr<|Rq Y (ZcL (cva<|ov Y) arL tZ_44<|arD fun _ => Y)<|Ra Y<|Ra Y<|Za<|Zj<|K1 1 Y<|Tr<|bE h fun y h_y h=>Rq Y (Zq (Zha h_y)<|.cons (ov Y) (.b Y) .nil)<|Za<|If h Y (fun h=>?_) fun h=>?_
 ·
  refine K0<|Tr<|Ra Y<|Ra Y<|Za<|?_
  obtain rfl := rt h
  exact Zp (ZK Y (.two (.tmp Y<|View.nils 5)<|rb Y))
 ·
  refine Zl<|K1 1 Y<|Tr<|Rx Y (ZV (row := (List.map C5 (Vector.replicate 96 0).toList)) 0 Y Zkx Y tZ_109)<|Za<|Tr<|bE h fun y2 h_y2 h=>Rx Y (ZC [0] (Zf7 h_y2) (.cons (ov Y) (.ptr _ _ _ Y)<|.cons (ov Y) (.dat Y) .nil) (.cons Y (ro1 (by exact Eq.trans (b := 96) arL tZ_109.symm)<|rld<|arD fun _ => Y) .nil) Y (.lent 0 (.inl Y) Y (ro1 (by exact Eq.trans (b := 96) arL tZ_109.symm)<|rld<|arD fun _ => Y) .nil) Y Y<|Xc<|rld Y)<|Za<|K1 4 Y<|Tr<|bE h fun l h_l h=>QA (Ent.sel [none] (sr 4 Y (.frp ⟨Y, ⟨_, Y⟩, Y, (arD fun _ => Y)⟩) sn) (.row 109 .nil) Y Y)<|Rq Y (ZiO (f := C5) (ov Y) Zcv tZ_5 (Zr arL) Y on on h_l)<|Ra Y<|Ra Y<|Za<|?_
  obtain rfl := rt h
  exact Zp (ZK Y (.two (rb Y)<|rb Y))
theorem Zef {s : List Int} {power : Int} {r : Int × Bool × (List Int)} (h : QB s power = some r) :
 GSpec Tryd.prog gl0 80 [.own 0 s.length, .int .i64 power] [some ⟨5, List.map R5 s⟩] (.tuple [.int .i64 r.1, .bool r.2.1]) [some ⟨5, List.map R5 r.2.2⟩] := by
 unfold QB at h
 replace h := Qa h
 refine Qt (by kernel_rfl) Tryd.func80 Y Y<|?_
 intro w0 A W φ0
 refine Tr<|Ra Y<|Ra Y<|Za<|K2 0 1 Y<|Tr<|Rm Y<|Ra Y<|Za<|Zj<|K3 0 1 6 Y<|Tr<|Rm Y<|R2 Zbt Y<|Za<|K4 0 1 6 10 Y<|If h Y (fun h=>?_) fun h=>?_
 ·
  refine K3 0 1 6 Y<|Zu<|Rm Y<|Rm Y<|Rq Y (Zc8 (ov Y) Y Y Qk)<|bE h fun q h_q h=>Rq Y (ZeB (ov Y) (ov Y) h_q)<|bE h fun u h_u h=>Rq Y (Zkp (ov Y) Y Y Qk on (oi<|ov Y) h_u)<|Ra Y<|Za<|I1 (fun o=>⟨[(1, .int .i64 power)], [some ⟨5, List.map R5 o⟩]⟩) h (fun h=>?_) fun o h=>?_
  ·
   refine K2 1 6 Y<|Tr<|Rm Y<|Rq Y (ZjC (ov Y) Y (List.length_map ..) Qk)<|Rm Y<|Za<|Zi<|?_
   obtain ⟨r1, hl1, ho1⟩ := Q2 h
   refine L2 (fun o2 i=>⟨[(1, .int .i64 power), (6, .osl 0 o2.length (Int.toNat 0) (Int.toNat (q - 0))), (17, .int .i64 ((Int.toNat (q - 0) : Nat) : Int)), (18, .int .i64 i)], [some ⟨5, List.map R5 o2⟩]⟩) hl1 (ES [some 0]<|sd 1 Y Y<|sr 6 Y (.osl _ _ _ Y)<|sd 17 Y Y<|sd 18 Y Y sn) fun n1 o2 i h=>?_
   unfold Qh at h
   refine Tr<|R2 ZX Y<|Za<|Zj<|If h Y (fun h=>?_) fun h=>?_
   ·
    exact Zl<|Zj<|Zi<|K4 1 6 17 18 Y<|Tr<|Rm Y<|Ra Y<|Za<|K5 1 6 7 17 18 Y<|Zu<|Rm Y<|Rm Y<|bE h fun u2 h_u2 h=>bE h fun x2 h_x2 h=>Rq Y (Zj0 (ov Y) (ov Y) Qk Y Y (ZeN h_u).1 h_u2 h_x2)<|Rx Y (ZaR (u' := 255) (ov Y) (ov Y) (Ze tS5) Y Y h_x2 Y (Zb Y) Y)<|Za<|K4 1 6 17 18 Y<|Zu<|R2 ZN Y<|Rm Y<|Za<|⟨_, h, ES [some 0]<|sd 1 Y Y<|sr 6 Y (Zlz (Eq.symm<|(List.length_set ..).trans Y) Y)<|sd 17 Y Y<|sd 18 Y Y sn⟩
   ·
    refine ZI<|?_
    replace h := lx h ▸ ho1
    exact ⟨_, h, ES [some 0]⟩
  ·
   refine Tr<|Rm Y<|R2 Zgh Y<|Rq Y (ZjS (ov Y) (ov Y) Y)<|Rm Y<|R2 Zcm Y<|Ra Y<|Ra Y<|Za<|?_
   obtain rfl := rt h
   exact Zp<|JJ [some 0] Y (.cons (.tmp Y)<|.cons (.tmp Y) .nil) (.cons Y (roM D5) .nil) Y Y<|Xc<|rlc (.dat Y)<|rlc (.dat Y) rln
 ·
  refine Zl<|I1 (fun o3=>⟨[(1, .int .i64 power)], [some ⟨5, List.map R5 o3⟩]⟩) h (fun h=>?_) fun o3 h=>?_
  ·
   refine K2 1 6 Y<|Tr<|Rm Y<|Rq Y (Zc8 (ov Y) Y Y Qk)<|Rm Y<|Za<|Zi<|?_
   obtain ⟨r2, hl2, ho2⟩ := Q2 h
   refine L2 (fun o4 i2=>⟨[(1, .int .i64 power), (6, .own 0 o4.length), (17, .int .i64 (s.length : Int)), (18, .int .i64 i2)], [some ⟨5, List.map R5 o4⟩]⟩) hl2 (ES [some 0]) fun n2 o4 i2 h=>?_
   unfold Qf at h
   refine Tr<|R2 ZX Y<|Za<|Zj<|If h Y (fun h=>?_) fun h=>?_
   ·
    exact Zl<|Zj<|Zi<|K4 1 6 17 18 Y<|Tr<|Rm Y<|Ra Y<|Za<|K5 1 6 7 17 18 Y<|Zu<|Rm Y<|Rm Y<|bE h fun x3 h_x3 h=>Rq Y (Xd (ov Y) (ov Y) Qk Y Y h_x3)<|Rx Y (ZaR (u' := 255) (ov Y) (ov Y) (Ze tS5) Y Y h_x3 Y (Zb Y) Y)<|Za<|K4 1 6 17 18 Y<|Zu<|R2 ZN Y<|Rm Y<|Za<|⟨_, h, ES [some 0]<|sd 1 Y Y<|sr 6 Y (Zen (Eq.symm<|(List.length_set ..).trans Y) Y)<|sd 17 Y Y<|sd 18 Y Y sn⟩
   ·
    refine ZI<|?_
    replace h := lx h ▸ ho2
    exact ⟨_, h, ES [some 0]⟩
  ·
   refine Tr<|Rm Y<|R2 Zgh Y<|Rq Y (ZjS (ov Y) (ov Y) Y)<|Rm Y<|R2 Zcm Y<|Ra Y<|Ra Y<|Za<|?_
   obtain rfl := rt h
   exact Zp<|JJ [some 0] Y (.cons (.tmp Y)<|.cons (.tmp Y) .nil) (.cons Y (roM D5) .nil) Y Y<|Xc<|rlc (.dat Y)<|rlc (.dat Y) rln
theorem Za9 {s : List Int} {at_ : Int} {data : List Int} {power : Int} {r : Int × Bool × (List Int)} (h : Ql s at_ data power = some r) :
 GSpec Tryd.prog gl0 24 [.own 0 s.length, .int .i64 at_, .sl 5 (List.map R5 data), .int .i64 power] [some ⟨5, List.map R5 s⟩] (.tuple [.int .i64 r.1, .bool r.2.1]) [some ⟨5, List.map R5 r.2.2⟩] := by
 unfold Ql at h
 replace h := Qa h
 refine Qt (by kernel_rfl) Tryd.func24 Y Y<|?_
 intro w0 A W φ0
 refine Tr<|Ra Y<|Ra Y<|Za<|J2 (fun j => (.inr j)) (fun o power2=>⟨[(3, .int .i64 power2)], [some ⟨5, List.map R5 o⟩]⟩) h (fun h=>?_) fun o power2 h=>?_
 ·
  refine K4 0 1 2 3 Y<|Tr<|Rm Y<|Rl tZ_5 Qk Y<|Rm Y<|Za<|Zi<|?_
  obtain ⟨r1, hl1, ho1⟩ := Q2 h
  refine L3 (fun o2 power3 i=>⟨[(0, .own 0 o2.length), (1, .int .i64 at_), (3, .int .i64 power3), (12, .sl 5 (List.map R5 data)), (13, .int .i64 (data.length : Int)), (14, .int .i64 i)], [some ⟨5, List.map R5 o2⟩]⟩) hl1 (ES [some 0]) fun n1 o2 power3 i h=>?_
  unfold Z2 at h
  refine Tr<|R2 ZX Y<|Za<|Zj<|If h Y (fun h=>?_) fun h=>?_
  ·
   refine Zl<|Zj<|Zi<|K6 0 1 3 12 13 14 Y<|Tr<|Rm Y<|bE h fun x h_x h=>Rq Y (Z5 (ov Y) (ov Y) Qk h_x)<|Rq Y (Zd (ov Y) tS5 Y)<|Ra Y<|Ra Y<|Za<|Zj<|K8 0 1 3 10 11 12 13 14 Y<|Tr<|Rm Y<|R2 Zbt Y<|Za<|K9 0 1 3 10 11 12 13 14 20 Y<|If h Y (fun h=>?_) fun h=>?_
   ·
    refine K4 0 1 10 11 Y<|Tr<|Rm Y<|Rm Y<|Rm Y<|R2 ZN Y<|bE h fun x2 h_x2 h=>Rq Y (Xd (ov Y) (ov Y) Qk Y Y h_x2)<|Rq Y (QY (ov Y) Y Y h_x2 tS5 Y)<|Rm Y<|R2 Zei Y<|R2 Zac Y<|bE h fun x3 h_x3 h=>Rq Y (Xd (ov Y) (ov Y) Qk Y Y h_x3)<|Rx Y (ZaR (u' := (QL .u8 x2 (bor .u8 x 15))) (ov Y) (ov Y) (Ze tS5) Y Y h_x3 Y (Zb Y) Y)<|Za<|K0<|Tr<|Ra Y<|Ra Y<|Za<|?_
    replace h := lx h ▸ ho1
    obtain rfl := rt h
    exact Zp<|JJ [some 0] Y (.cons (.tmp Y)<|.cons (.tmp Y) .nil) (.cons Y (roM D5) .nil) Y Y<|Xc<|rlc (.dat Y)<|rlc (.dat Y) rln
   ·
    exact Zl<|K8 0 1 3 10 11 12 13 14 Y<|Tr<|Rm Y<|Rm Y<|Rm Y<|R2 ZN Y<|bE h fun x4 h_x4 h=>Rq Y (Xd (ov Y) (ov Y) Qk Y Y h_x4)<|Rq Y (QY (ov Y) Y Y h_x4 tS5 Y)<|Rm Y<|R2 Zac Y<|bE h fun x5 h_x5 h=>Rq Y (Xd (ov Y) (ov Y) Qk Y Y h_x5)<|Rx Y (ZaR (u' := (QL .u8 x4 x)) (ov Y) (ov Y) (Ze tS5) Y Y h_x5 Y (Zb Y) Y)<|Za<|K6 0 1 3 12 13 14 Y<|Zu<|Rm Y<|R2 Zgh Y<|Ra Y<|Za<|K6 0 1 3 12 13 14 Y<|Zu<|R2 ZN Y<|Rm Y<|Za<|⟨_, h, ES [some 0]<|sr 0 Y (Zen (Eq.symm<|(List.length_set ..).trans Y) Y)<|sd 1 Y Y<|sd 3 Y Y<|sd 12 Y Y<|sd 13 Y Y<|sd 14 Y Y sn⟩
  ·
   refine ZI<|?_
   replace h := lx h ▸ ho1
   exact ⟨_, h, ES [some 0]⟩
 ·
  replace h := elr h
  replace h := t2i h
  refine Tr<|Rm Y<|Ra Y<|Ra Y<|Za<|?_
  obtain rfl := rt h
  exact Zp<|JJ [some 0] Y (.cons (.tmp Y)<|.cons (.tmp Y) .nil) (.cons Y (roM D5) .nil) Y Y<|Xc<|rlc (.dat Y)<|rlc (.dat Y) rln
theorem Zcf {b : ring_Recorder} {k : Int} {power : Int} {r : Int × Bool × ring_Recorder} (h : Xl b k power = some r) :
 GSpec Tryd.prog gl0 64 [.ptr 0 1 0 0, .int .i64 k, .int .i64 power] [some ⟨80, [[.own 1 b.bank.memories.length, .own 2 b.bank.spots.length, .int .i64 b.copies, .bool b.frozen, .bool b.stopped, .int .i64 b.last, .bool b.some_]]⟩, some ⟨60, List.map O60 b.bank.memories⟩, some ⟨83, List.map R83 b.bank.spots⟩] (.tuple [.int .i64 r.1, .bool r.2.1]) [some ⟨80, [[.own 3 r.2.2.bank.memories.length, .own 4 r.2.2.bank.spots.length, .int .i64 r.2.2.copies, .bool r.2.2.frozen, .bool r.2.2.stopped, .int .i64 r.2.2.last, .bool r.2.2.some_]]⟩, none, none, some ⟨60, List.map O60 r.2.2.bank.memories⟩, some ⟨83, List.map R83 r.2.2.bank.spots⟩] := by
 unfold Xl at h
 replace h := Qa h
 refine Qt (by kernel_rfl) Tryd.func64 Y Y<|?_
 intro w0 A W φ0
 refine Zej (Ent.sel [some 0, some 1, some 2, some 1, some 2] (sr 0 Y (.ptr (r' := 0) _ _ _ Y)<|sd 1 Y Y<|sd 2 Y Y sn) (.cons Y (ro1 (by exact tZ_80.symm)<|rlc (.own (r' := 3) _ Y)<|rlc (.own (r' := 4) _ Y)<|rlc (.dat Y)<|rlc (.dat Y)<|rlc (.dat Y)<|rlc (.dat Y)<|rlc (.dat Y) rln)<|.dead<|.dead<|.cons Y (roO Q9)<|.cons Y (roM D83) .nil) Y Y)<|QH [some ⟨80, [[.own 3 b.bank.memories.length, .own 4 b.bank.spots.length, .int .i64 b.copies, .bool b.frozen, .bool b.stopped, .int .i64 b.last, .bool b.some_]]⟩, none, none, some ⟨60, List.map O60 b.bank.memories⟩, some ⟨83, List.map R83 b.bank.spots⟩] Y<|Tr<|Ra Y<|Ra Y<|Za<|Zj<|K3 0 1 2 Y<|Qn (cw := md0) (by kernel_rfl)<|D1 0 Zc Y<|Dq 1 Y (Zt (ov Y) Y Y)<|Dq 2 Y (Zg (ov Y) Y Y ZcZ)<|Dq 3 Y (Zs (ov Y) Y Y Y ZhI Y)<|D1 4 Zc Y<|bE h fun x h_x h=>Dq 5 Y (Xd (ov Y) (ov Y) Zcj Y Y h_x)<|D1 6 Zc Y<|D1 7 Zc Y<|bE h fun y h_y h=>Dq 8 Y (ZbV (Zan h_y) .int<|.cons (ov Y) (View.ptrS (j := 0) (k := 2) Y Y Y (Nat.le_of_ble_eq_true Y)<|.cons (View.ownO Y Y Q9 (fun x=>(D60 x).1) Zir)<|.cons (View.ownM Y Y D83) .nil)<|.cons (ov Y) (Dat.view<|.b Y) .nil)<|D1 9 Qb Y<|D1 10 Qb Y<|Dd<|K5 0 1 2 8 9 Y<|Tr<|Rm Y<|Rm Y<|Rm Y<|bE h fun y2 h_y2 h=>Rq Y (ZbV (Za1 h_y2) .int<|.cons (ov Y) (View.ptrS (j := 0) (k := 2) Y Y Y (Nat.le_of_ble_eq_true Y)<|.cons (View.ownO Y Y Q9 (fun x=>(D60 x).1) Zir)<|.cons (View.ownM Y Y D83) .nil)<|.cons (ov Y) (Dat.view<|.b Y)<|.cons (ov Y) (Dat.view<|.b Y) .nil)<|Ra Y<|Za<|K6 0 1 2 8 9 10 Y<|Tr<|Rm Y<|Rq Y (Zt (ov Y) Y<|List.length_map ..)<|Rq Y (Zb5 (ov Y) Y Y ZeH)<|QA (Ent.focusH (r := 3) (j := 3) (e' := 3) (g := R3) (ys := x.Wear) Y (Zv h_x).2 Y DR3)<|Rq Y (Zby (ov Y) Y Y (Zv h_x).2 Zis Y)<|Rm Y<|bE h fun x2 h_x2 h=>Rq Y (Xd (ov Y) (ov Y) Xt Y Y h_x2)<|Rq Y (QY (ov Y) Y Y h_x2 tS3 Y)<|R2 ZN Y<|bE h fun x3 h_x3 h=>Rq Y (Xd (ov Y) (ov Y) Xt Y Y h_x3)<|Rx Y (ZaR (u' := (i64 (x2 + 1))) (ov Y) (ov Y) (Ze tS3) Y Y h_x3 Y (Zb Y) Y)<|ZdK [some ⟨80, [[.own 3 b.bank.memories.length, .own 4 b.bank.spots.length, .int .i64 b.copies, .bool b.frozen, .bool b.stopped, .int .i64 b.last, .bool b.some_]]⟩, none, none, some ⟨60, List.set (List.map O60 b.bank.memories) k.toNat [.int .i64 x.Slots, .int .i64 x.Limit, .osub 29 (List.map O29 x.Sectors), .own 5 x.Wear.length, .osub 4 (List.map R4 x.Bad)]⟩, some ⟨83, List.map R83 b.bank.spots⟩, some ⟨3, List.map R3 (x.Wear.set y.toNat (i64 (x2 + 1)))⟩] Y<|?_
 have h_x4 := Xj (y := (api_Memory.mk x.Slots x.Limit x.Sectors (x.Wear.set y.toNat (i64 (x2 + 1))) x.Bad)) h_x
 have h_x5 := Xj (y := (api_Memory.mk x.Slots x.Limit x.Sectors (x.Wear.set y.toNat (i64 (x2 + 1))) x.Bad)) h_x
 have h_x6 := Xj (y := (api_Memory.mk x.Slots x.Limit x.Sectors (x.Wear.set y.toNat (i64 (x2 + 1))) x.Bad)) h_x
 have h_x7 := Xj (y := (api_Memory.mk x.Slots x.Limit x.Sectors (x.Wear.set y.toNat (i64 (x2 + 1))) x.Bad)) h_x
 refine QA (Ent.absorbH (r := 3) (j := 3) (q := 5) Y (Zv h_x).2 Y Y ((List.length_map ..).trans<|(List.length_set ..).trans Y) Y)<|QA (Ent.closeH (r := 3) (y := (api_Memory.mk x.Slots x.Limit x.Sectors (x.Wear.set y.toNat (i64 (x2 + 1))) x.Bad)) Y Y)<|Za<|K6 0 1 2 8 9 10 Y<|QH [some ⟨80, [[.own 3 b.bank.memories.length, .own 4 b.bank.spots.length, .int .i64 b.copies, .bool b.frozen, .bool b.stopped, .int .i64 b.last, .bool b.some_]]⟩, none, none, some ⟨60, List.map O60 (b.bank.memories.set k.toNat (api_Memory.mk x.Slots x.Limit x.Sectors (x.Wear.set y.toNat (i64 (x2 + 1))) x.Bad))⟩, some ⟨83, List.map R83 b.bank.spots⟩, none] Y<|Tr<|Rm Y<|Rq Y (Zt (ov Y) Y<|(List.length_map ..).trans<|(List.length_set ..).trans Y)<|Rq Y (Zb5 (ov Y) Y ((List.length_set ..).trans Y) ZE)<|QA (Ent.focusH (r := 3) (j := 2) (e' := 29) (g := O29) (ys := x.Sectors) Y (Zv h_x4).2 Y Q8)<|Rq Y (Zby (ov Y) Y ((List.length_set ..).trans Y) (Zv h_x4).2 Z4 Y)<|Rm Y<|bE h fun x8 h_x8 h=>Rq Y (Xd (ov Y) (ov Y) ZU Y Y h_x8)<|QA (Ent.focusH (r := 6) (j := 0) (e' := 5) (g := R5) (ys := x8) Y (Zv h_x8).2 Y DR5)<|Rq Y (Zby (ov Y) Y Y (Zv h_x8).2 Zf5 Y)<|Rm Y<|bE h fun y3 h_y3 h=>Rx Y (ZC [7] (Zef h_y3) (.cons (ov Y) (.own _ Y)<|.cons (ov Y) (.dat Y) .nil) (.cons Y (roM D5) .nil) Y (.keep Y Y<|.none<|.none<|.keep Y Y<|.keep Y Y<|.none<|.keep Y Y<|.lent 0 (.inl Y) Y (roM D5) .nil) Y Y<|Xc<|rld Y)<|Rm Y<|Rq Y (Zn (ov Y) Y)<|Rq Y (Zn (ov Y) Y)<|Ra Y<|Ra Y<|ZdK [some ⟨80, [[.own 3 b.bank.memories.length, .own 4 b.bank.spots.length, .int .i64 b.copies, .bool b.frozen, .bool b.stopped, .int .i64 b.last, .bool b.some_]]⟩, none, none, some ⟨60, List.set (List.map O60 (b.bank.memories.set k.toNat (api_Memory.mk x.Slots x.Limit x.Sectors (x.Wear.set y.toNat (i64 (x2 + 1))) x.Bad))) k.toNat [.int .i64 x.Slots, .int .i64 x.Limit, .own 6 x.Sectors.length, .osub 3 (List.map R3 (x.Wear.set y.toNat (i64 (x2 + 1)))), .osub 4 (List.map R4 x.Bad)]⟩, some ⟨83, List.map R83 b.bank.spots⟩, none, some ⟨29, List.set (List.map O29 x.Sectors) y.toNat [.own 7 x8.length]⟩, some ⟨5, List.map R5 y3.2.2⟩] Y<|?_
 have h_x9 := Xj (y := y3.2.2) h_x8
 have h_x10 := Xj (y := (api_Memory.mk x.Slots x.Limit (x.Sectors.set y.toNat y3.2.2) (x.Wear.set y.toNat (i64 (x2 + 1))) x.Bad)) h_x4
 have h_x11 := Xj (y := (api_Memory.mk x.Slots x.Limit (x.Sectors.set y.toNat y3.2.2) (x.Wear.set y.toNat (i64 (x2 + 1))) x.Bad)) h_x4
 have h_x12 := Xj (y := (api_Memory.mk x.Slots x.Limit (x.Sectors.set y.toNat y3.2.2) (x.Wear.set y.toNat (i64 (x2 + 1))) x.Bad)) h_x4
 have h_x13 := Xj (y := (api_Memory.mk x.Slots x.Limit (x.Sectors.set y.toNat y3.2.2) (x.Wear.set y.toNat (i64 (x2 + 1))) x.Bad)) h_x4
 refine QA (Ent.absorbH (r := 6) (j := 0) (q := 7) Y (Zv h_x8).2 Y Y ((List.length_map ..).trans<|Zd3 h_y3) Y)<|QA (Ent.closeH (r := 6) (y := y3.2.2) Y Y)<|QA (Ent.absorbH (r := 3) (j := 2) (q := 6) Y (Zv h_x4).2 Y Y ((List.length_map ..).trans<|(List.length_set ..).trans Y) Y)<|QA (Ent.closeH (r := 3) (y := (api_Memory.mk x.Slots x.Limit (x.Sectors.set y.toNat y3.2.2) (x.Wear.set y.toNat (i64 (x2 + 1))) x.Bad)) Y Y)<|Za<|Zj<|K7 0 1 2 8 9 10 11 Y<|QH [some ⟨80, [[.own 3 b.bank.memories.length, .own 4 b.bank.spots.length, .int .i64 b.copies, .bool b.frozen, .bool b.stopped, .int .i64 b.last, .bool b.some_]]⟩, none, none, some ⟨60, List.map O60 ((b.bank.memories.set k.toNat (api_Memory.mk x.Slots x.Limit x.Sectors (x.Wear.set y.toNat (i64 (x2 + 1))) x.Bad)).set k.toNat (api_Memory.mk x.Slots x.Limit (x.Sectors.set y.toNat y3.2.2) (x.Wear.set y.toNat (i64 (x2 + 1))) x.Bad))⟩, some ⟨83, List.map R83 b.bank.spots⟩, none, none, none] Y<|Tr<|Rm Y<|R1 Ji Y<|Za<|K7 0 1 2 8 9 10 47 Y<|If h Y (fun h=>?_) fun h=>?_
 ·
  refine K1 2 Y<|Tr<|Rm Y<|Ra Y<|Ra Y<|Za<|?_
  obtain rfl := rt h
  exact Zp<|JJ [some 0, some 1, some 2, some 3, some 4] Y (.cons (.tmp Y)<|.cons (.tmp Y) .nil) (.cons Y (ro1 (by exact tZ_80.symm)<|rlc (Zen (Eq.symm<|(List.length_set ..).trans<|(List.length_set ..).trans Y) Y)<|rlc (.own _ Y)<|rlc (.dat Y)<|rlc (.dat Y)<|rlc (.dat Y)<|rlc (.dat Y)<|rlc (.dat Y) rln)<|.dead<|.dead<|.cons Y (roO Q9)<|.cons Y (roM D83) .nil) Y Y<|Xc<|rlc (.dat Y)<|rlc (.dat Y) rln
 ·
  refine Zl<|I4 (fun memories spots power2 all=>⟨[(2, .int .i64 power2), (11, .bool all)], [some ⟨80, [[.own 3 memories.length, .own 4 spots.length, .int .i64 b.copies, .bool b.frozen, .bool b.stopped, .int .i64 b.last, .bool b.some_]]⟩, none, none, some ⟨60, List.map O60 memories⟩, some ⟨83, List.map R83 spots⟩]⟩) h (fun h=>?_) fun memories spots power2 all h=>?_
  ·
   refine Zj<|K6 0 1 2 8 9 10 Y<|bE h fun x14 h_x14 h=>Zej (Ent.focusH (r := 3) (j := 2) (e' := 29) (g := O29) (ys := x14.Sectors) Y (Zv h_x14).2 Y Q8)<|bE h fun x15 h_x15 h=>Zej (Ent.focusH (r := 8) (j := 0) (e' := 5) (g := R5) (ys := x15) Y (Zv h_x15).2 Y DR5)<|Qn (cw := ⟨true, true, [some ⟨80, [[.own 3 b.bank.memories.length, .own 4 b.bank.spots.length, .int .i64 b.copies, .bool b.frozen, .bool b.stopped, .int .i64 b.last, .bool b.some_]]⟩, none, none, some ⟨60, List.set (List.map O60 ((b.bank.memories.set k.toNat (api_Memory.mk x.Slots x.Limit x.Sectors (x.Wear.set y.toNat (i64 (x2 + 1))) x.Bad)).set k.toNat (api_Memory.mk x.Slots x.Limit (x.Sectors.set y.toNat y3.2.2) (x.Wear.set y.toNat (i64 (x2 + 1))) x.Bad))) k.toNat [.int .i64 x14.Slots, .int .i64 x14.Limit, .own 8 x14.Sectors.length, .osub 3 (List.map R3 x14.Wear), .osub 4 (List.map R4 x14.Bad)]⟩, some ⟨83, List.map R83 b.bank.spots⟩, none, none, none, some ⟨29, List.set (List.map O29 x14.Sectors) y.toNat [.own 9 x15.length]⟩, some ⟨5, List.map R5 x15⟩], [], [9]⟩) (by kernel_rfl)<|D1 7 Zc Y<|ZY 0 _ Y (by kernel_rfl) Y Y (fun hp'=>Zc<|ov Y)<|Xb 1 _ Y (by kernel_rfl) Y Y Y (EL.ext<|.keep<|.keep<|.keep<|.keep<|.keep<|.keep<|.keep<|.keep<|.keep<|.wr Y Y Y .nil) (fun hp' hx=>Zt (ov Y) (hx.get Y Y)<|((List.length_set ..).trans (List.length_map ..)).trans<|(List.length_set ..).trans<|(List.length_set ..).trans Y)<|Xb 2 _ Y (by kernel_rfl) Y Y Y (EL.ext<|.keep<|.keep<|.keep<|.keep<|.keep<|.keep<|.keep<|.keep<|.keep<|.wr Y Y Y .nil) (fun hp' hx=>Zhg (ov Y) (hx.get Y Y) ((List.length_set ..).trans<|(List.length_set ..).trans Y) ZE)<|Xb 3 _ Y (by kernel_rfl) Y Y Y (EL.ext<|.keep<|.keep<|.keep<|.keep<|.keep<|.keep<|.keep<|.keep<|.keep<|.wr Y Y Y .nil) (fun hp' hx=>Zby (ov Y) (hx.get Y Y) ((List.length_set ..).trans<|(List.length_set ..).trans Y) (Zv h_x14).2 Z4 Y)<|ZY 4 _ Y (by kernel_rfl) Y Y (fun hp'=>Zc<|ov Y)<|bE h fun x16 h_x16 h=>Xb 5 _ Y (by kernel_rfl) Y Y Y (EL.ext<|.keep<|.keep<|.keep<|.keep<|.keep<|.keep<|.keep<|.keep<|.keep<|.wr Y Y Y .nil) (fun hp' hx=>Ziq (ov Y) (ov Y) ZU (hx.get Y Y) Y h_x16)<|Xb 6 _ Y (by kernel_rfl) Y Y Y (EL.ext<|.keep<|.keep<|.keep<|.keep<|.keep<|.keep<|.keep<|.keep<|.keep<|.wr Y Y Y .nil) (fun hp' hx=>Zby (ov Y) (hx.get Y Y) Y (Zv h_x15).2 Zf5 Y)<|ZY 9 _ Y (by kernel_rfl) Y Y (fun hp'=>Zc<|ov Y)<|bE h fun y4 h_y4 h=>Jb 8 _ _ Y (by kernel_rfl) Y Y (fun h=>by cases h) (fun _=>by exact EL.ext (.keep <| .keep <| .keep <| .keep <| .keep <| .keep <| .keep <| .keep <| .keep <| .wr rfl rfl rfl <| .nil)) (Xo<|Zq (Zdy h_y4)<|.cons (ov Y) (.b Y) .nil)<|bE h fun y5 h_y5 h=>Jb 10 _ _ Y (by kernel_rfl) Y Y (fun h=>by cases h) (fun _=>by exact EL.ext (.keep <| .keep <| .keep <| .keep <| .keep <| .keep <| .keep <| .keep <| .keep <| .wr rfl rfl ((List.length_map ..).trans (Eq.trans (Xy h_y5) (Eq.symm ((List.length_map ..).trans rfl)))) <| .nil)) (ZC [9] (Za9 h_y5) (.cons (ov Y) (.own _ Y)<|.cons (ov Y) (.dat Y)<|.cons (ov Y) (.dat Y)<|.cons (ov Y) (.dat Y) .nil) (.cons Y (roM D5) .nil) Y (.keep Y Y<|.none<|.none<|.keep Y Y<|.keep Y Y<|.none<|.none<|.none<|.keep Y Y<|.lent 0 (.inl Y) Y (roM D5) .nil) Y Y<|Xc<|rld Y)<|D1 11 Zc Y<|Dq 12 Y (Zn (ov Y) Y)<|Dq 13 Y (Zn (ov Y) Y)<|D1 14 Qb Y<|D1 15 Qb Y<|?_
   have h_x17 := Xj (y := y5.2.2) h_x16
   have h_x18 := Xj (y := (api_Memory.mk x14.Slots x14.Limit (x14.Sectors.set y.toNat y5.2.2) x14.Wear x14.Bad)) h_x10
   have h_x19 := Xj (y := (api_Memory.mk x14.Slots x14.Limit (x14.Sectors.set y.toNat y5.2.2) x14.Wear x14.Bad)) h_x10
   have h_x20 := Xj (y := (api_Memory.mk x14.Slots x14.Limit (x14.Sectors.set y.toNat y5.2.2) x14.Wear x14.Bad)) h_x10
   have h_x21 := Xj (y := (api_Memory.mk x14.Slots x14.Limit (x14.Sectors.set y.toNat y5.2.2) x14.Wear x14.Bad)) h_x10
   refine ZQ (by kernel_rfl) (Ent.trans (Ent.absorbH (r := 8) (j := 0) (q := 9) Y (Zv h_x15).2 Y Y ((List.length_map ..).trans<|Xy h_y5) Y)<|Ent.trans (Ent.closeH (r := 8) (y := y5.2.2) Y Y)<|Ent.trans (Ent.absorbH (r := 3) (j := 2) (q := 8) Y (Zv h_x14).2 Y Y ((List.length_map ..).trans<|(List.length_set ..).trans Y) Y)<|Ent.closeH (r := 3) (y := (api_Memory.mk x14.Slots x14.Limit (x14.Sectors.set y.toNat y5.2.2) x14.Wear x14.Bad)) Y Y)<|K5 0 1 2 9 11 Y<|QH [some ⟨80, [[.own 3 b.bank.memories.length, .own 4 b.bank.spots.length, .int .i64 b.copies, .bool b.frozen, .bool b.stopped, .int .i64 b.last, .bool b.some_]]⟩, none, none, some ⟨60, List.map O60 (((b.bank.memories.set k.toNat (api_Memory.mk x.Slots x.Limit x.Sectors (x.Wear.set y.toNat (i64 (x2 + 1))) x.Bad)).set k.toNat (api_Memory.mk x.Slots x.Limit (x.Sectors.set y.toNat y3.2.2) (x.Wear.set y.toNat (i64 (x2 + 1))) x.Bad)).set k.toNat (api_Memory.mk x14.Slots x14.Limit (x14.Sectors.set y.toNat y5.2.2) x14.Wear x14.Bad))⟩, some ⟨83, List.map R83 b.bank.spots⟩, none, none, none, none, none] Y<|Tr<|Rm Y<|Za<|If h Y (fun h=>?_) fun h=>?_
   ·
    exact K5 0 1 2 9 11 Y<|Zu<|Rm Y<|Rq Y (Zt (ov Y) Y Y)<|Rq Y (Zg (ov Y) Y Y Zey)<|Rq Y (Zs (ov Y) Y Y Y Zix Y)<|Rm Y<|Rm Y<|Rq Y (Xk (ys := [_, _]) ZjO ZjF Zjb (.cons (cvs (ov Y)<|Zk Y) .nil) Y)<|bE h fun x22 h_x22 h=>Rq Y (Xd (ov Y) (ov Y) Ziv Y Y h_x22)<|Rx Y (ZaR (u' := (ring_spot.mk y 0)) (ov Y) (ov Y) (Zw ZhG Y) Y Y h_x22 Y (Zb Y) Y)<|Za<|⟨_, h, ES [some 0, some 1, some 2, some 3, some 4] (hhp := .cons Y (ro1 (by exact tZ_80.symm)<|rlc (Zen (Eq.symm<|(List.length_set ..).trans<|(List.length_set ..).trans<|(List.length_set ..).trans Y) Y)<|rlc (Zen (Eq.symm<|(List.length_set ..).trans Y) Y)<|rlc (.dat Y)<|rlc (.dat Y)<|rlc (.dat Y)<|rlc (.dat Y)<|rlc (.dat Y) rln)<|.dead<|.dead<|.cons Y (roO Q9)<|.cons Y (roM D83) .nil)⟩
   ·
    exact Zl<|⟨_, h, ES [some 0, some 1, some 2, some 3, some 4] (hhp := .cons Y (ro1 (by exact tZ_80.symm)<|rlc (Zen (Eq.symm<|(List.length_set ..).trans<|(List.length_set ..).trans<|(List.length_set ..).trans Y) Y)<|rlc (.own _ Y)<|rlc (.dat Y)<|rlc (.dat Y)<|rlc (.dat Y)<|rlc (.dat Y)<|rlc (.dat Y) rln)<|.dead<|.dead<|.cons Y (roO Q9)<|.cons Y (roM D83) .nil)⟩
  ·
   refine Tr<|Rm Y<|Rm Y<|Ra Y<|Ra Y<|Za<|?_
   obtain rfl := rt h
   exact Zp<|JJ [some 0, some 1, some 2, some 3, some 4] Y (.cons (.tmp Y)<|.cons (.tmp Y) .nil) (.cons Y (ro1 (by exact tZ_80.symm)<|rlc (.own _ Y)<|rlc (.own _ Y)<|rlc (.dat Y)<|rlc (.dat Y)<|rlc (.dat Y)<|rlc (.dat Y)<|rlc (.dat Y) rln)<|.dead<|.dead<|.cons Y (roO Q9)<|.cons Y (roM D83) .nil) Y Y<|Xc<|rlc (.dat Y)<|rlc (.dat Y) rln
theorem Zb7 {b : ring_Recorder} {k : Int} {data : List Int} {power : Int} {r : Int × Bool × ring_Recorder} (h : XW b k data power = some r) :
 GSpec Tryd.prog gl0 38 [.ptr 0 1 0 0, .int .i64 k, .slf 5 (List.map R5 data), .int .i64 power] [some ⟨80, [[.own 1 b.bank.memories.length, .own 2 b.bank.spots.length, .int .i64 b.copies, .bool b.frozen, .bool b.stopped, .int .i64 b.last, .bool b.some_]]⟩, some ⟨60, List.map O60 b.bank.memories⟩, some ⟨83, List.map R83 b.bank.spots⟩] (.tuple [.int .i64 r.1, .bool r.2.1]) [some ⟨80, [[.own 3 r.2.2.bank.memories.length, .own 4 r.2.2.bank.spots.length, .int .i64 r.2.2.copies, .bool r.2.2.frozen, .bool r.2.2.stopped, .int .i64 r.2.2.last, .bool r.2.2.some_]]⟩, none, none, some ⟨60, List.map O60 r.2.2.bank.memories⟩, some ⟨83, List.map R83 r.2.2.bank.spots⟩] := by
 unfold XW at h
 replace h := Qa h
 refine Qt (by kernel_rfl) Tryd.func38 Y Y<|?_
 intro w0 A W φ0
 refine Zej (Ent.sel [some 0, some 1, some 2, some 1, some 2] (sr 0 Y (.ptr (r' := 0) _ _ _ Y)<|sd 1 Y Y<|sd 2 Y Y<|sd 3 Y Y sn) (.cons Y (ro1 (by exact tZ_80.symm)<|rlc (.own (r' := 3) _ Y)<|rlc (.own (r' := 4) _ Y)<|rlc (.dat Y)<|rlc (.dat Y)<|rlc (.dat Y)<|rlc (.dat Y)<|rlc (.dat Y) rln)<|.dead<|.dead<|.cons Y (roO Q9)<|.cons Y (roM D83) .nil) Y Y)<|QH [some ⟨80, [[.own 3 b.bank.memories.length, .own 4 b.bank.spots.length, .int .i64 b.copies, .bool b.frozen, .bool b.stopped, .int .i64 b.last, .bool b.some_]]⟩, none, none, some ⟨60, List.map O60 b.bank.memories⟩, some ⟨83, List.map R83 b.bank.spots⟩] Y<|Tr<|Ra Y<|Ra Y<|Za<|J8 (fun j => (.inr j)) (fun memories spots copies frozen stopped last some_ power2=>⟨[(0, .ptr 0 1 0 0), (1, .int .i64 k), (2, .slf 5 (List.map R5 data)), (3, .int .i64 power2)], [some ⟨80, [[.own 3 memories.length, .own 4 spots.length, .int .i64 copies, .bool frozen, .bool stopped, .int .i64 last, .bool some_]]⟩, none, none, some ⟨60, List.map O60 memories⟩, some ⟨83, List.map R83 spots⟩]⟩) h (fun h=>?_) fun memories spots copies frozen stopped last some_ power2 h=>?_
 ·
  refine K4 0 1 2 3 Y<|Tr<|Rm Y<|Rm Y<|bE h fun y h_y h=>Rq Y (ZbV (JD h_y) .bool<|.cons (ov Y) (View.ptrS (j := 0) (k := 2) Y Y Y (Nat.le_of_ble_eq_true Y)<|.cons (View.ownO Y Y Q9 (fun x=>(D60 x).1) Zir)<|.cons (View.ownM Y Y D83) .nil)<|.cons (ov Y) (Dat.view<|.b Y) .nil)<|Za<|K5 0 1 2 3 15 Y<|If h Y (fun h=>?_) fun h=>?_
  ·
   refine K4 0 1 2 3 Y<|Tr<|Ra Y<|Za<|Tr<|Rm Y<|Rm Y<|Rm Y<|bE h fun y2 h_y2 h=>Rx Y (ZC [0, 3, 4] (Zcf h_y2) (.cons (ov Y) (.ptr _ _ _ Y)<|.cons (ov Y) (.dat Y)<|.cons (ov Y) (.dat Y) .nil) (.cons Y (ro1 (by exact tZ_80.symm)<|rlc (.own _ Y)<|rlc (.own _ Y)<|rlc (.dat Y)<|rlc (.dat Y)<|rlc (.dat Y)<|rlc (.dat Y)<|rlc (.dat Y) rln)<|.cons Y (roO Q9)<|.cons Y (roM D83) .nil) Y (.lent 0 (.inl Y) Y (ro1 (by exact tZ_80.symm)<|rlc (.own _<|.inr ⟨Nat.le_of_ble_eq_true Y, Y⟩)<|rlc (.own _<|.inr ⟨Nat.le_of_ble_eq_true Y, Y⟩)<|rlc (.dat Y)<|rlc (.dat Y)<|rlc (.dat Y)<|rlc (.dat Y)<|rlc (.dat Y) rln)<|.none<|.none<|.none<|.none<|.lent 3 (.inr ⟨Nat.le_of_ble_eq_true Y, Y⟩) Y (roO Q9)<|.lent 4 (.inr ⟨Nat.le_of_ble_eq_true Y, Y⟩) Y (roM D83) .nil) Y Y<|Xc<|rld Y)<|Rm Y<|Rq Y (Zn (ov Y) Y)<|Rq Y (Zn (ov Y) Y)<|Ra Y<|Ra Y<|Za<|K5 0 1 2 3 10 Y<|QH [some ⟨80, [[.own 5 y2.2.2.bank.memories.length, .own 6 y2.2.2.bank.spots.length, .int .i64 y2.2.2.copies, .bool y2.2.2.frozen, .bool y2.2.2.stopped, .int .i64 y2.2.2.last, .bool y2.2.2.some_]]⟩, none, none, none, none, some ⟨60, List.map O60 y2.2.2.bank.memories⟩, some ⟨83, List.map R83 y2.2.2.bank.spots⟩] Y<|Tr<|Rm Y<|R1 Ji Y<|Za<|K5 0 1 2 3 24 Y<|If h Y (fun h=>?_) fun h=>?_
   ·
    refine K1 3 Y<|Tr<|Rm Y<|Ra Y<|Ra Y<|Za<|?_
    obtain rfl := rt h
    exact Zp<|JJ [some 0, some 1, some 2, some 5, some 6] Y (.cons (.tmp Y)<|.cons (.tmp Y) .nil) (.cons Y (ro1 (by exact tZ_80.symm)<|rlc (.own _ Y)<|rlc (.own _ Y)<|rlc (.dat Y)<|rlc (.dat Y)<|rlc (.dat Y)<|rlc (.dat Y)<|rlc (.dat Y) rln)<|.dead<|.dead<|.cons Y (roO Q9)<|.cons Y (roM D83) .nil) Y Y<|Xc<|rlc (.dat Y)<|rlc (.dat Y) rln
   ·
    exact Zl<|⟨_, h, ES [some 0, some 1, some 2, some 5, some 6] (hhp := .cons Y (ro1 (by exact tZ_80.symm)<|rlc (.own _ Y)<|rlc (.own _ Y)<|rlc (.dat Y)<|rlc (.dat Y)<|rlc (.dat Y)<|rlc (.dat Y)<|rlc (.dat Y) rln)<|.dead<|.dead<|.cons Y (roO Q9)<|.cons Y (roM D83) .nil)⟩
  ·
   exact Zl<|⟨_, h, ES [some 0, some 1, some 2, some 3, some 4] (hhp := .cons Y (ro1 (by exact tZ_80.symm)<|rlc (.own _ Y)<|rlc (.own _ Y)<|rlc (.dat Y)<|rlc (.dat Y)<|rlc (.dat Y)<|rlc (.dat Y)<|rlc (.dat Y) rln)<|.dead<|.dead<|.cons Y (roO Q9)<|.cons Y (roM D83) .nil)⟩
 ·
  replace h := elr h
  replace h := t8i h
  refine Tr<|Rm Y<|Rq Y (Zt (ov Y) Y Y)<|Rq Y (Zg (ov Y) Y Y Zey)<|Rq Y (Zs (ov Y) Y Y Y Zix Y)<|Rm Y<|bE h fun x h_x h=>Rq Y (Xd (ov Y) (ov Y) Ziv Y Y h_x)<|Ra Y<|Za<|Zj<|K5 0 1 2 3 11 Y<|bE h fun x2 h_x2 h=>Zej (Ent.focusH (r := 3) (j := 2) (e' := 29) (g := O29) (ys := x2.Sectors) Y (Zv h_x2).2 Y Q8)<|bE h fun x3 h_x3 h=>Zej (Ent.focusH (r := 5) (j := 0) (e' := 5) (g := R5) (ys := x3) Y (Zv h_x3).2 Y DR5)<|Qn (cw := ⟨true, true, [some ⟨80, [[.own 3 memories.length, .own 4 spots.length, .int .i64 copies, .bool frozen, .bool stopped, .int .i64 last, .bool some_]]⟩, none, none, some ⟨60, List.set (List.map O60 memories) k.toNat [.int .i64 x2.Slots, .int .i64 x2.Limit, .own 5 x2.Sectors.length, .osub 3 (List.map R3 x2.Wear), .osub 4 (List.map R4 x2.Bad)]⟩, some ⟨83, List.map R83 spots⟩, some ⟨29, List.set (List.map O29 x2.Sectors) x.sector.toNat [.own 6 x3.length]⟩, some ⟨5, List.map R5 x3⟩], [], [6]⟩) (by kernel_rfl)<|ZY 0 _ Y (by kernel_rfl) Y Y (fun hp'=>Zc<|ov Y)<|Xb 1 _ Y (by kernel_rfl) Y Y Y (EL.ext<|.keep<|.keep<|.keep<|.keep<|.keep<|.keep<|.wr Y Y Y .nil) (fun hp' hx=>Zt (ov Y) (hx.get Y Y) Y)<|Xb 2 _ Y (by kernel_rfl) Y Y Y (EL.ext<|.keep<|.keep<|.keep<|.keep<|.keep<|.keep<|.wr Y Y Y .nil) (fun hp' hx=>Zg (ov Y) (hx.get Y Y) Y ZcZ)<|Xb 3 _ Y (by kernel_rfl) Y Y Y (EL.ext<|.keep<|.keep<|.keep<|.keep<|.keep<|.keep<|.wr Y Y Y .nil) (fun hp' hx=>Zs (ov Y) (hx.get Y Y) Y Y ZhI Y)<|ZY 4 _ Y (by kernel_rfl) Y Y (fun hp'=>Zc<|ov Y)<|bE h fun x4 h_x4 h=>Xb 5 _ Y (by kernel_rfl) Y Y Y (EL.ext<|.keep<|.keep<|.keep<|.keep<|.keep<|.keep<|.wr Y Y Y .nil) (fun hp' hx=>Ziq (ov Y) (ov Y) Zcj (hx.get Y Y) Y h_x4)<|Xb 6 _ Y (by kernel_rfl) Y Y Y (EL.ext<|.keep<|.keep<|.keep<|.keep<|.keep<|.keep<|.wr Y Y Y .nil) (fun hp' hx=>Zhg (ov Y) (hx.get Y Y) Y ZE)<|Xb 7 _ Y (by kernel_rfl) Y Y Y (EL.ext<|.keep<|.keep<|.keep<|.keep<|.keep<|.keep<|.wr Y Y Y .nil) (fun hp' hx=>Zby (ov Y) (hx.get Y Y) Y (Zv h_x2).2 Z4 Y)<|ZY 8 _ Y (by kernel_rfl) Y Y (fun hp'=>Zc<|ov Y)<|Xb 9 _ Y (by kernel_rfl) Y Y Y (EL.ext<|.keep<|.keep<|.keep<|.keep<|.keep<|.keep<|.wr Y Y Y .nil) (fun hp' hx=>Zt (ov Y) (hx.get Y Y)<|List.length_map ..)<|Xb 10 _ Y (by kernel_rfl) Y Y Y (EL.ext<|.keep<|.keep<|.keep<|.keep<|.keep<|.keep<|.wr Y Y Y .nil) (fun hp' hx=>Zb5 (ov Y) (hx.get Y Y) Y ZfJ)<|Xb 11 _ Y (by kernel_rfl) Y Y Y (EL.ext<|.keep<|.keep<|.keep<|.keep<|.keep<|.keep<|.wr Y Y Y .nil) (fun hp' hx=>QY (ov Y) (hx.get Y Y) Y h_x tS3 Y)<|bE h fun x5 h_x5 h=>Xb 12 _ Y (by kernel_rfl) Y Y Y (EL.ext<|.keep<|.keep<|.keep<|.keep<|.keep<|.keep<|.wr Y Y Y .nil) (fun hp' hx=>Ziq (ov Y) (ov Y) ZU (hx.get Y Y) Y h_x5)<|Xb 13 _ Y (by kernel_rfl) Y Y Y (EL.ext<|.keep<|.keep<|.keep<|.keep<|.keep<|.keep<|.wr Y Y Y .nil) (fun hp' hx=>Zby (ov Y) (hx.get Y Y) Y (Zv h_x3).2 Zf5 Y)<|ZY 14 _ Y (by kernel_rfl) Y Y (fun hp'=>Zc<|ov Y)<|Xb 15 _ Y (by kernel_rfl) Y Y Y (EL.ext<|.keep<|.keep<|.keep<|.keep<|.keep<|.keep<|.wr Y Y Y .nil) (fun hp' hx=>Zt (ov Y) (hx.get Y Y)<|List.length_map ..)<|Xb 16 _ Y (by kernel_rfl) Y Y Y (EL.ext<|.keep<|.keep<|.keep<|.keep<|.keep<|.keep<|.wr Y Y Y .nil) (fun hp' hx=>Zb5 (ov Y) (hx.get Y Y) Y ZgF)<|Xb 17 _ Y (by kernel_rfl) Y Y Y (EL.ext<|.keep<|.keep<|.keep<|.keep<|.keep<|.keep<|.wr Y Y Y .nil) (fun hp' hx=>QY (ov Y) (hx.get Y Y) Y h_x tS3 Y)<|ZY 18 _ Y (by kernel_rfl) Y Y (fun hp'=>Zky (ov Y) (ov Y) Y)<|ZY 19 _ Y (by kernel_rfl) Y Y (fun hp'=>Zil (ov Y) (ov Y) Y)<|ZY 20 _ Y (by kernel_rfl) Y Y (fun hp'=>Zc<|ov Y)<|ZY 23 _ Y (by kernel_rfl) Y Y (fun hp'=>Zc<|ov Y)<|Jb 21 (.sl 5<|List.map R5 ([0] : List Int)) _ Y (by kernel_rfl) Y Y (fun h=>by cases h) (fun _=>by exact EL.ext (.keep <| .keep <| .keep <| .keep <| .keep <| .keep <| .wr rfl rfl rfl <| .nil)) (Xo<|XU Qk (.cons (cvs (ov Y)<|Zk Y) Y (.cons (.b Y) .nil) .nil) Y Y)<|bE h fun l h_l h=>Jb 22 _ _ Y (by kernel_rfl) Y Y (fun h=>by cases h) (fun _=>by exact EL.ext (.keep <| .keep <| .keep <| .keep <| .keep <| .keep <| .wr rfl rfl rfl <| .nil)) (Xo<|Zi8 (f := R5) (ov Y) (QR (ov Y) tZ_5) Qk Y Y (fun x=>(D5 x).2) h_l)<|bE h fun y3 h_y3 h=>Jb 24 _ _ Y (by kernel_rfl) Y Y (fun h=>by cases h) (fun _=>by exact EL.ext (.keep <| .keep <| .keep <| .keep <| .keep <| .keep <| .wr rfl rfl ((List.length_map ..).trans (Eq.trans (Xy h_y3) (Eq.symm ((List.length_map ..).trans rfl)))) <| .nil)) (ZC [6] (Za9 h_y3) (.cons (ov Y) (.own _ Y)<|.cons (ov Y) (.dat Y)<|.cons (ov Y) (.dat Y)<|.cons (ov Y) (.dat Y) .nil) (.cons Y (roM D5) .nil) Y (.keep Y Y<|.none<|.none<|.keep Y Y<|.keep Y Y<|.keep Y Y<|.lent 0 (.inl Y) Y (roM D5) .nil) Y Y<|Xc<|rld Y)<|D1 25 Zc Y<|Dq 26 Y (Zn (ov Y) Y)<|Dq 27 Y (Zn (ov Y) Y)<|D1 28 Qb Y<|D1 29 Qb Y<|?_
  have h_x6 := Xj (y := y3.2.2) h_x5
  have h_x7 := Xj (y := (api_Memory.mk x2.Slots x2.Limit (x2.Sectors.set x.sector.toNat y3.2.2) x2.Wear x2.Bad)) h_x4
  have h_x8 := Xj (y := (api_Memory.mk x2.Slots x2.Limit (x2.Sectors.set x.sector.toNat y3.2.2) x2.Wear x2.Bad)) h_x4
  refine ZQ (by kernel_rfl) (Ent.trans (Ent.absorbH (r := 5) (j := 0) (q := 6) Y (Zv h_x3).2 Y Y ((List.length_map ..).trans<|Xy h_y3) Y)<|Ent.trans (Ent.closeH (r := 5) (y := y3.2.2) Y Y)<|Ent.trans (Ent.absorbH (r := 3) (j := 2) (q := 5) Y (Zv h_x2).2 Y Y ((List.length_map ..).trans<|(List.length_set ..).trans Y) Y)<|Ent.closeH (r := 3) (y := (api_Memory.mk x2.Slots x2.Limit (x2.Sectors.set x.sector.toNat y3.2.2) x2.Wear x2.Bad)) Y Y)<|K3 3 11 12 Y<|QH [some ⟨80, [[.own 3 memories.length, .own 4 spots.length, .int .i64 copies, .bool frozen, .bool stopped, .int .i64 last, .bool some_]]⟩, none, none, some ⟨60, List.map O60 (memories.set k.toNat (api_Memory.mk x2.Slots x2.Limit (x2.Sectors.set x.sector.toNat y3.2.2) x2.Wear x2.Bad))⟩, some ⟨83, List.map R83 spots⟩, none, none] Y<|Tr<|Rm Y<|Rq Y (Zt (ov Y) Y<|List.length_map ..)<|Rq Y (Zb5 (ov Y) Y Y ZgF)<|Rq Y (QY (ov Y) Y Y h_x tS3 Y)<|R2 ZN Y<|Rq Y (Zt (ov Y) Y<|List.length_map ..)<|Rq Y (Zb5 (ov Y) Y Y ZgF)<|Rx Y (ZaR (u' := (ring_spot.mk x.sector (i64 (x.slot + 1)))) (ov Y) (ov Y) (Ze tS3) Y Y h_x Y (Zb Y) Y)<|Za<|K2 3 12 Y<|QH [some ⟨80, [[.own 3 memories.length, .own 4 spots.length, .int .i64 copies, .bool frozen, .bool stopped, .int .i64 last, .bool some_]]⟩, none, none, some ⟨60, List.map O60 (memories.set k.toNat (api_Memory.mk x2.Slots x2.Limit (x2.Sectors.set x.sector.toNat y3.2.2) x2.Wear x2.Bad))⟩, some ⟨83, List.map R83 (spots.set k.toNat (ring_spot.mk x.sector (i64 (x.slot + 1))))⟩, none, none] Y<|Tr<|Rm Y<|Rm Y<|Ra Y<|Ra Y<|Za<|?_
  obtain rfl := rt h
  exact Zp<|JJ [some 0, some 1, some 2, some 3, some 4] Y (.cons (.tmp Y)<|.cons (.tmp Y) .nil) (.cons Y (ro1 (by exact tZ_80.symm)<|rlc (Zen (Eq.symm<|(List.length_set ..).trans Y) Y)<|rlc (Zen (Eq.symm<|(List.length_set ..).trans Y) Y)<|rlc (.dat Y)<|rlc (.dat Y)<|rlc (.dat Y)<|rlc (.dat Y)<|rlc (.dat Y) rln)<|.dead<|.dead<|.cons Y (roO Q9)<|.cons Y (roM D83) .nil) Y Y<|Xc<|rlc (.dat Y)<|rlc (.dat Y) rln
theorem Zcs {r_ : ring_Recorder} {f : Vector Int 64} {power : Int} {r : Int × Bool × Int × ring_Recorder} (h : QF r_ f power = some r) :
 GSpec Tryd.prog gl0 15 [.ptr 0 1 0 0, .agg (List.map C42 f.toList), .int .i64 power] [some ⟨80, [[.own 1 r_.bank.memories.length, .own 2 r_.bank.spots.length, .int .i64 r_.copies, .bool r_.frozen, .bool r_.stopped, .int .i64 r_.last, .bool r_.some_]]⟩, some ⟨60, List.map O60 r_.bank.memories⟩, some ⟨83, List.map R83 r_.bank.spots⟩] (.tuple [.int .i64 r.1, .bool r.2.1, .int .i64 r.2.2.1]) [some ⟨80, [[.own 3 r.2.2.2.bank.memories.length, .own 4 r.2.2.2.bank.spots.length, .int .i64 r.2.2.2.copies, .bool r.2.2.2.frozen, .bool r.2.2.2.stopped, .int .i64 r.2.2.2.last, .bool r.2.2.2.some_]]⟩, none, none, some ⟨60, List.map O60 r.2.2.2.bank.memories⟩, some ⟨83, List.map R83 r.2.2.2.bank.spots⟩] := by
 unfold QF at h
 replace h := Qa h
 refine Qt (by kernel_rfl) Tryd.func15 Y Y<|?_
 intro w0 A W φ0
 refine Zej (Ent.sel [some 0, some 1, some 2, some 1, some 2] (sr 0 Y (.ptr (r' := 0) _ _ _ Y)<|sr 1 Y (Zdr<|rld<|arD fun _ => Y)<|sd 2 Y Y sn) (.cons Y (ro1 (by exact tZ_80.symm)<|rlc (.own (r' := 3) _ Y)<|rlc (.own (r' := 4) _ Y)<|rlc (.dat Y)<|rlc (.dat Y)<|rlc (.dat Y)<|rlc (.dat Y)<|rlc (.dat Y) rln)<|.dead<|.dead<|.cons Y (roO Q9)<|.cons Y (roM D83) .nil) Y Y)<|QH [some ⟨80, [[.own 3 r_.bank.memories.length, .own 4 r_.bank.spots.length, .int .i64 r_.copies, .bool r_.frozen, .bool r_.stopped, .int .i64 r_.last, .bool r_.some_]]⟩, none, none, some ⟨60, List.map O60 r_.bank.memories⟩, some ⟨83, List.map R83 r_.bank.spots⟩] Y<|Tr<|Rq Y (ZcL (cva<|ov Y) arL tZ_44<|arD fun _ => Y)<|Ra Y<|Ra Y<|Ra Y<|Za<|Zj<|K3 0 2 4 Y<|Tr<|Rm Y<|Rm Y<|bE h fun y h_y h=>Rq Y (ZbV (Zdu h_y) .int<|.cons (ov Y) (View.ptrS (j := 0) (k := 7) Y Y Y (Nat.le_of_ble_eq_true Y)<|.cons (View.ownO Y Y Q9 (fun x=>(D60 x).1) Zir)<|.cons (View.ownM Y Y D83)<|.cons (Dat.view<|.b Y)<|.cons (Dat.view<|.b Y)<|.cons (Dat.view<|.b Y)<|.cons (Dat.view<|.b Y)<|.cons (Dat.view<|.b Y) .nil)<|.cons (ov Y) (Dat.view<|.b Y) .nil)<|Ra Y<|Za<|K4 0 2 4 9 Y<|Tr<|Rm Y<|R2 XI Y<|Za<|K5 0 2 4 9 23 Y<|If h Y (fun h=>?_) fun h=>?_
 ·
  refine K1 9 Y<|Tr<|Rm Y<|Ra Y<|Ra Y<|Ra Y<|Za<|?_
  obtain rfl := rt h
  exact Zp<|JJ [some 0, some 1, some 2, some 3, some 4] Y (.cons (.tmp Y)<|.cons (.tmp Y)<|.cons (.tmp Y) .nil) (.cons Y (ro1 (by exact tZ_80.symm)<|rlc (.own _ Y)<|rlc (.own _ Y)<|rlc (.dat Y)<|rlc (.dat Y)<|rlc (.dat Y)<|rlc (.dat Y)<|rlc (.dat Y) rln)<|.dead<|.dead<|.cons Y (roO Q9)<|.cons Y (roM D83) .nil) Y Y<|Xc<|rlc (.dat Y)<|rlc (.dat Y)<|rlc (.dat Y) rln
 ·
  refine Zl<|Zj<|K3 0 2 4 Y<|Tr<|Rq Y (QU (ov Y) XG (Qr<|Zr arL) arL)<|bE h fun y2 h_y2 h=>Rq Y (Zq (ZdI h_y2)<|.cons (ov Y) (.aggB<|arD fun _ => Y) .nil)<|Rl tZ_114 ZfI Y<|R2 Zcm Y<|Za<|K4 0 2 4 28 Y<|If h Y (fun h=>?_) fun h=>?_
  ·
   refine K0<|Tr<|Ra Y<|Ra Y<|Ra Y<|Za<|?_
   obtain rfl := rt h
   exact Zp<|JJ [some 0, some 1, some 2, some 3, some 4] Y (.cons (.tmp Y)<|.cons (.tmp Y)<|.cons (.tmp Y) .nil) (.cons Y (ro1 (by exact tZ_80.symm)<|rlc (.own _ Y)<|rlc (.own _ Y)<|rlc (.dat Y)<|rlc (.dat Y)<|rlc (.dat Y)<|rlc (.dat Y)<|rlc (.dat Y) rln)<|.dead<|.dead<|.cons Y (roO Q9)<|.cons Y (roM D83) .nil) Y Y<|Xc<|rlc (.dat Y)<|rlc (.dat Y)<|rlc (.dat Y) rln
  ·
   refine Zl<|K3 0 2 4 Y<|Tr<|Rq Y (QU (ov Y) XG (Qr<|Zr arL) arL)<|bE h fun y3 h_y3 h=>Rq Y (Zq (Zdg h_y3)<|.cons (ov Y) (.aggB<|arD fun _ => Y) .nil)<|Rm Y<|Rq Y (Zn (ov Y) Y)<|Rq Y (Zn (ov Y) Y)<|Ra Y<|Ra Y<|Za<|Zj<|K4 0 2 4 10 Y<|Qn (cw := md0) (by kernel_rfl)<|D1 0 Zc Y<|D1 1 Zc Y<|Dq 2 Y (Zt (ov Y) Y Y)<|Dq 3 Y (Zg (ov Y) Y Y ZdG)<|Dq 4 Y (Zg (ov Y) Y Y ZcZ)<|Dq 5 Y (Zs (ov Y) Y Y Y ZhI Y)<|Dq 6 Y (Zc8 (ov Y) Y Y Zcj)<|D1 7 Zc Y<|Dq 8 Y (Zt (ov Y) Y Y)<|Dq 9 Y (Zg (ov Y) Y Y ZkO)<|Dq 10 Y (Zs (ov Y) Y Y Y tS3 Y)<|bE h fun y4 h_y4 h=>Dq 11 Y (Zq (Zf6 h_y4)<|.cons (ov Y) (.b Y)<|.cons (ov Y) (.b Y)<|.cons (ov Y) (.b Y) .nil)<|D1 12 Qb Y<|Dd<|Zj<|K5 0 2 4 10 12 Y<|Tr<|Rm Y<|Rq Y (Zt (ov Y) Y Y)<|Rq Y (Zg (ov Y) Y Y ZdG)<|Rm Y<|bE h fun y5 h_y5 h=>Rq Y (ZbV (ZeE h_y5) .int<|.cons (ov Y) (View.ptrS (j := 0) (k := 2) Y Y Y (Nat.le_of_ble_eq_true Y)<|.cons (View.ownO Y Y Q9 (fun x=>(D60 x).1) Zir)<|.cons (View.ownM Y Y D83) .nil)<|.cons (ov Y) (Dat.view<|.b Y) .nil)<|Ra Y<|Za<|K6 0 2 4 10 12 13 Y<|Tr<|Rm Y<|R2 XI Y<|Za<|K7 0 2 4 10 12 13 52 Y<|If h Y (fun h=>?_) fun h=>?_
   ·
    refine K1 13 Y<|Tr<|Rm Y<|Ra Y<|Ra Y<|Ra Y<|Za<|?_
    obtain rfl := rt h
    exact Zp<|JJ [some 0, some 1, some 2, some 3, some 4] Y (.cons (.tmp Y)<|.cons (.tmp Y)<|.cons (.tmp Y) .nil) (.cons Y (ro1 (by exact tZ_80.symm)<|rlc (.own _ Y)<|rlc (.own _ Y)<|rlc (.dat Y)<|rlc (.dat Y)<|rlc (.dat Y)<|rlc (.dat Y)<|rlc (.dat Y) rln)<|.dead<|.dead<|.cons Y (roO Q9)<|.cons Y (roM D83) .nil) Y Y<|Xc<|rlc (.dat Y)<|rlc (.dat Y)<|rlc (.dat Y) rln
   ·
    refine Zl<|K5 0 2 4 10 12 Y<|Tr<|Rq Y (QU (ov Y) XG (Qr<|Zr arL) arL)<|bE h fun y6 h_y6 h=>Rq Y (Zq (ZfK h_y6)<|.cons (ov Y) (.aggB<|arD fun _ => Y) .nil)<|Rm Y<|Rq Y (Zn (ov Y) Y)<|Rq Y (Zn (ov Y) Y)<|Ra Y<|Ra Y<|Za<|J8 (fun j => (.inr j)) (fun memories spots copies frozen stopped last some_ power2=>⟨[(0, .ptr 0 1 0 0), (2, .int .i64 power2), (10, .int .i64 y3.1)], [some ⟨80, [[.own 3 memories.length, .own 4 spots.length, .int .i64 copies, .bool frozen, .bool stopped, .int .i64 last, .bool some_]]⟩, none, none, some ⟨60, List.map O60 memories⟩, some ⟨83, List.map R83 spots⟩]⟩) h (fun h=>?_) fun memories spots copies frozen stopped last some_ power2 h=>?_
    ·
     refine K5 0 2 10 12 14 Y<|Tr<|Rm Y<|Rl tZ_3 Xt Y<|Rm Y<|Za<|Zi<|?_
     obtain ⟨r1, hl1, ho1⟩ := Q2 h
     refine L9 (fun memories2 spots2 copies2 frozen2 stopped2 last2 some_2 power3 i=>⟨[(0, .ptr 0 1 0 0), (2, .int .i64 power3), (10, .int .i64 y3.1), (14, .sl 5 (List.map R5 y6.1)), (59, .sl 3 (List.map R3 y4)), (60, .int .i64 (y4.length : Int)), (61, .int .i64 i)], [some ⟨80, [[.own 3 memories2.length, .own 4 spots2.length, .int .i64 copies2, .bool frozen2, .bool stopped2, .int .i64 last2, .bool some_2]]⟩, none, none, some ⟨60, List.map O60 memories2⟩, some ⟨83, List.map R83 spots2⟩]⟩) hl1 (ES [some 0, some 1, some 2, some 3, some 4] (hhp := .cons Y (ro1 (by exact tZ_80.symm)<|rlc (.own _ Y)<|rlc (.own _ Y)<|rlc (.dat Y)<|rlc (.dat Y)<|rlc (.dat Y)<|rlc (.dat Y)<|rlc (.dat Y) rln)<|.dead<|.dead<|.cons Y (roO Q9)<|.cons Y (roM D83) .nil)) fun n1 memories2 spots2 copies2 frozen2 stopped2 last2 some_2 power3 i h=>?_
     unfold QM at h
     refine Tr<|R2 ZX Y<|Za<|Zj<|If h Y (fun h=>?_) fun h=>?_
     ·
      refine Zl<|Zj<|Zi<|K7 0 2 10 14 59 60 61 Y<|Tr<|bE h fun x h_x h=>Rq Y (Z5 (ov Y) (ov Y) Xt h_x)<|Rq Y (Zd (ov Y) tS3 Y)<|Ra Y<|Za<|K8 0 2 10 14 17 59 60 61 Y<|Tr<|Ra Y<|Za<|Zj<|Qn (cw := ⟨true, false, [], [], []⟩) (by kernel_rfl)<|D1 0 Zc Y<|Dq 1 Y (Zt (ov Y) Y Y)<|Dq 2 Y (Zg (ov Y) Y Y ZdG)<|D1 3 Zc Y<|D1 4 Zc Y<|D1 5 Zc Y<|Dq 6 Y (ZhX (QR (ov Y) tZ_5) Qk<|ZeP _ _)<|D1 7 Zc Y<|Dq 8 Y (ZhX (QR (ov Y) tZ_5) Qk<|ZeP _ _)<|bE h fun l h_l h=>Dq 9 Y (Zjg (ov Y) Qk (ov Y) (ov Y) h_l)<|D1 10 Zc Y<|bE h fun y7 h_y7 h=>Do 11 Y (ZC [0, 3, 4] (Zb7 h_y7) (.cons (ov Y) (.ptr _ _ _ Y)<|.cons (ov Y) (.dat Y)<|.cons (ov Y) (.dat Y)<|.cons (ov Y) (.dat Y) .nil) (.cons Y (ro1 (by exact tZ_80.symm)<|rlc (.own _ Y)<|rlc (.own _ Y)<|rlc (.dat Y)<|rlc (.dat Y)<|rlc (.dat Y)<|rlc (.dat Y)<|rlc (.dat Y) rln)<|.cons Y (roO Q9)<|.cons Y (roM D83) .nil) Y (.lent 0 (.inl Y) Y (ro1 (by exact tZ_80.symm)<|rlc (.own _<|.inr ⟨Nat.le_of_ble_eq_true Y, Y⟩)<|rlc (.own _<|.inr ⟨Nat.le_of_ble_eq_true Y, Y⟩)<|rlc (.dat Y)<|rlc (.dat Y)<|rlc (.dat Y)<|rlc (.dat Y)<|rlc (.dat Y) rln)<|.none<|.none<|.none<|.none<|.lent 3 (.inr ⟨Nat.le_of_ble_eq_true Y, Y⟩) Y (roO Q9)<|.lent 4 (.inr ⟨Nat.le_of_ble_eq_true Y, Y⟩) Y (roM D83) .nil) Y Y<|Xc<|rld Y)<|D1 12 Zc Y<|Dq 13 Y (Zn (ov Y) Y)<|Dq 14 Y (Zn (ov Y) Y)<|D1 15 Qb Y<|D1 16 Qb Y<|Dd<|K8 0 2 10 14 18 59 60 61 Y<|QH [some ⟨80, [[.own 5 y7.2.2.bank.memories.length, .own 6 y7.2.2.bank.spots.length, .int .i64 y7.2.2.copies, .bool y7.2.2.frozen, .bool y7.2.2.stopped, .int .i64 y7.2.2.last, .bool y7.2.2.some_]]⟩, none, none, none, none, some ⟨60, List.map O60 y7.2.2.bank.memories⟩, some ⟨83, List.map R83 y7.2.2.bank.spots⟩] Y<|Tr<|Rm Y<|R1 Ji Y<|Za<|K8 0 2 10 14 59 60 61 81 Y<|If h Y (fun h=>?_) fun h=>?_
      ·
       refine K2 0 2 Y<|Tr<|Rm Y<|Rq Y (Zt (ov Y) Y Y)<|Rq Y (Zg (ov Y) Y Y ZjH)<|Rx Y (Zh (ov Y) (ov Y) (Ze tS4) Y Y Y (Nat.le_of_ble_eq_true Y) (Zb Y) Y)<|Za<|K1 2 Y<|QH [some ⟨80, [[.own 5 y7.2.2.bank.memories.length, .own 6 y7.2.2.bank.spots.length, .int .i64 y7.2.2.copies, .bool y7.2.2.frozen, .bool true, .int .i64 y7.2.2.last, .bool y7.2.2.some_]]⟩, none, none, none, none, some ⟨60, List.map O60 y7.2.2.bank.memories⟩, some ⟨83, List.map R83 y7.2.2.bank.spots⟩] Y<|Tr<|Rm Y<|Ra Y<|Ra Y<|Ra Y<|Za<|?_
       replace h := lx h ▸ ho1
       obtain rfl := rt h
       exact Zp<|JJ [some 0, some 1, some 2, some 5, some 6] Y (.cons (.tmp Y)<|.cons (.tmp Y)<|.cons (.tmp Y) .nil) (.cons Y (ro1 (by exact tZ_80.symm)<|rlc (.own _ Y)<|rlc (.own _ Y)<|rlc (.dat Y)<|rlc (.dat Y)<|rlc (.dat Y)<|rlc (.dat Y)<|rlc (.dat Y) rln)<|.dead<|.dead<|.cons Y (roO Q9)<|.cons Y (roM D83) .nil) Y Y<|Xc<|rlc (.dat Y)<|rlc (.dat Y)<|rlc (.dat Y) rln
      ·
       exact Zl<|K7 0 2 10 14 59 60 61 Y<|Zu<|R2 ZN Y<|Rm Y<|Za<|⟨_, h, ES [some 0, some 1, some 2, some 5, some 6] (hhp := .cons Y (ro1 (by exact tZ_80.symm)<|rlc (.own _ Y)<|rlc (.own _ Y)<|rlc (.dat Y)<|rlc (.dat Y)<|rlc (.dat Y)<|rlc (.dat Y)<|rlc (.dat Y) rln)<|.dead<|.dead<|.cons Y (roO Q9)<|.cons Y (roM D83) .nil)⟩
     ·
      refine ZI<|?_
      replace h := lx h ▸ ho1
      exact ⟨_, h, ES [some 0, some 1, some 2, some 3, some 4] (hhp := .cons Y (ro1 (by exact tZ_80.symm)<|rlc (.own _ Y)<|rlc (.own _ Y)<|rlc (.dat Y)<|rlc (.dat Y)<|rlc (.dat Y)<|rlc (.dat Y)<|rlc (.dat Y) rln)<|.dead<|.dead<|.cons Y (roO Q9)<|.cons Y (roM D83) .nil)⟩
    ·
     replace h := elr h
     replace h := t8i h
     refine Tr<|Rm Y<|Rm Y<|Rm Y<|Rq Y (Zt (ov Y) Y Y)<|Rq Y (Zg (ov Y) Y Y Zk2)<|Rx Y (Zh (ov Y) (ov Y) (Ze tS3) Y Y Y (Nat.le_of_ble_eq_true Y) (Zb Y) Y)<|Rq Y (Zt (ov Y) Y Y)<|Rq Y (Zg (ov Y) Y Y ZkS)<|Rx Y (Zh (ov Y) (ov Y) (Ze tS4) Y Y Y (Nat.le_of_ble_eq_true Y) (Zb Y) Y)<|Za<|K1 2 Y<|QH [some ⟨80, [[.own 3 memories.length, .own 4 spots.length, .int .i64 copies, .bool frozen, .bool stopped, .int .i64 y3.1, .bool true]]⟩, none, none, some ⟨60, List.map O60 memories⟩, some ⟨83, List.map R83 spots⟩] Y<|Tr<|Rm Y<|Ra Y<|Ra Y<|Ra Y<|Za<|?_
     obtain rfl := rt h
     exact Zp<|JJ [some 0, some 1, some 2, some 3, some 4] Y (.cons (.tmp Y)<|.cons (.tmp Y)<|.cons (.tmp Y) .nil) (.cons Y (ro1 (by exact tZ_80.symm)<|rlc (.own _ Y)<|rlc (.own _ Y)<|rlc (.dat Y)<|rlc (.dat Y)<|rlc (.dat Y)<|rlc (.dat Y)<|rlc (.dat Y) rln)<|.dead<|.dead<|.cons Y (roO Q9)<|.cons Y (roM D83) .nil) Y Y<|Xc<|rlc (.dat Y)<|rlc (.dat Y)<|rlc (.dat Y) rln
theorem Zgf {l : List api_Memory} {r : (List api_Memory)} (h : Xh l = some r) :
 CSpec Tryd.prog gl0 31 [.sl 60 (List.map R60 l)] (.sl 60 (List.map R60 r)) := by
 unfold Xh at h
 replace h := Qa h
 refine So Tryd.func31 Y fun w0 A=>Tr<|Ra Y<|Za<|K1 0 Y<|Tr<|Ra Y<|Za<|I1 (fun out=>⟨[(3, .own 0 out.length)], [some ⟨60, List.map O60 out⟩]⟩) h (fun h=>?_) fun out h=>?_
 ·
  refine Tr<|Rm Y<|Rl tZ_60 Zcj Y<|Rm Y<|Za<|Zi<|?_
  obtain ⟨r1, hl1, ho1⟩ := Q2 h
  refine L2 (fun out2 i=>⟨[(3, .own 0 out2.length), (6, .sl 60 (List.map R60 l)), (7, .int .i64 (l.length : Int)), (8, .int .i64 i)], [some ⟨60, List.map O60 out2⟩]⟩) hl1 (ES [none]) fun n1 out2 i h=>?_
  unfold XV at h
  refine Tr<|R2 ZX Y<|Za<|Zj<|If h Y (fun h=>?_) fun h=>?_
  ·
   exact Zl<|Zj<|Zi<|K4 3 6 7 8 Y<|Tr<|bE h fun x h_x h=>Rq Y (Z5 (ov Y) (ov Y) Zcj h_x)<|Rq Y (QU (ov Y) XT Y Y)<|Rx Y (ZV (row := [_, _, _, _, _]) 1 Y ZcM Y tZ_60)<|Rx Y (Zh (ov Y) (ov Y) (Zw XT Y) Y Y Y (Nat.le_of_ble_eq_true Y) (Zb Y) Y)<|Za<|K5 3 5 6 7 8 Y<|QH [some ⟨60, List.map O60 out2⟩, some ⟨60, [[.int .i64 x.Slots, .int .i64 x.Limit, .sl 29 (List.map R29 x.Sectors), .sl 3 (List.map R3 x.Wear), .sl 4 (List.map R4 x.Bad)]]⟩] Y<|Zu<|Rm Y<|Rq Y (Qj (ov Y) Y Y Y XT Y Y)<|bE h fun y h_y h=>Rx Y (ZC [] (Zbs h_y) (.cons (ov Y) (Zdr<|rld Y) .nil) .nil Y (.keep Y Y<|.keep Y Y<|.lent 0 (.inr ⟨Nat.le_of_ble_eq_true Y, Y⟩) Y (roO Q8)<|.lent 1 (.inr ⟨Nat.le_of_ble_eq_true Y, Y⟩) Y (roM D3)<|.lent 2 (.inr ⟨Nat.le_of_ble_eq_true Y, Y⟩) Y (roM D4) .nil) Y Y<|Zdr<|rlc (.dat Y)<|rlc (.dat Y)<|rlc (.own _<|.inr ⟨Nat.le_of_ble_eq_true Y, Y⟩)<|rlc (.own _<|.inr ⟨Nat.le_of_ble_eq_true Y, Y⟩)<|rlc (.own _<|.inr ⟨Nat.le_of_ble_eq_true Y, Y⟩) rln)<|Rx Y (Qg (r := 5) Y Zcj (.cons (cva<|ov Y) Y .nil) Y Y)<|bE h fun l2 h_l2 h=>Rx Y (ZD (f := O60) (ov Y) (ZO (o := ⟨60, [[.int .i64 y.Slots, .int .i64 y.Limit, .own 2 y.Sectors.length, .own 3 y.Wear.length, .own 4 y.Bad.length]]⟩) (ov Y) Y Y tZ_60) Zcj Y Y (Zb Y) Y h_l2)<|Ra Y<|ZdK [some ⟨60, List.set (List.map O60 l2) out2.length [.int .i64 y.Slots, .int .i64 y.Limit, .own 2 y.Sectors.length, .own 3 y.Wear.length, .own 4 y.Bad.length]⟩, some ⟨60, [[.int .i64 x.Slots, .int .i64 x.Limit, .sl 29 (List.map R29 x.Sectors), .sl 3 (List.map R3 x.Wear), .sl 4 (List.map R4 x.Bad)]]⟩, some ⟨29, List.map O29 y.Sectors⟩, some ⟨3, List.map R3 y.Wear⟩, some ⟨4, List.map R4 y.Bad⟩, some ⟨60, [[.int .i64 y.Slots, .int .i64 y.Limit, .own 2 y.Sectors.length, .own 3 y.Wear.length, .own 4 y.Bad.length]]⟩] Y<|QA (Ent.absorbH (r := 0) (j := 2) (q := 2) Y (Zm h_l2) Y Y (List.length_map ..) Y)<|QA (Ent.absorbH (r := 0) (j := 3) (q := 3) Y (Zm h_l2) Y Y (List.length_map ..) Y)<|QA (Ent.absorbH (r := 0) (j := 4) (q := 4) Y (Zm h_l2) Y Y (List.length_map ..) Y)<|QA (Ent.closeS (r := 0) Y (Zm h_l2) Y)<|Za<|K4 3 6 7 8 Y<|QH [some ⟨60, List.map O60 l2⟩, some ⟨60, [[.int .i64 x.Slots, .int .i64 x.Limit, .sl 29 (List.map R29 x.Sectors), .sl 3 (List.map R3 x.Wear), .sl 4 (List.map R4 x.Bad)]]⟩, none, none, none, some ⟨60, [[.int .i64 y.Slots, .int .i64 y.Limit, .own 2 y.Sectors.length, .own 3 y.Wear.length, .own 4 y.Bad.length]]⟩] Y<|Zu<|R2 ZN Y<|Rm Y<|Za<|⟨_, h, ES [some 0] (hhp := .cons Y (roO Q9) .nil)⟩
  ·
   refine ZI<|?_
   replace h := lx h ▸ ho1
   exact ⟨_, h, ES [some 0] (hhp := .cons Y (roO Q9) .nil)⟩
 ·
  refine Tr<|Rm Y<|Ra Y<|Za<|?_
  obtain rfl := rt h
  exact Zp (ZK Y (.one<|.tmp Y<|View.ownO Y Y Q9 (fun x=>(D60 x).1) Zir))
theorem ZbW {r_ : ring_Recorder} {r : (List api_Memory)} (h : Qs r_ = some r) :
 GSpec Tryd.prog gl0 16 [.ptr 0 1 0 0] [some ⟨80, [[.own 1 r_.bank.memories.length, .own 2 r_.bank.spots.length, .int .i64 r_.copies, .bool r_.frozen, .bool r_.stopped, .int .i64 r_.last, .bool r_.some_]]⟩, some ⟨60, List.map O60 r_.bank.memories⟩, some ⟨83, List.map R83 r_.bank.spots⟩] (.sl 60 (List.map R60 r)) [some ⟨80, [[.sl 60 (List.map R60 r_.bank.memories), .own 3 r_.bank.spots.length, .int .i64 r_.copies, .bool r_.frozen, .bool r_.stopped, .int .i64 r_.last, .bool r_.some_]]⟩, none, none, some ⟨83, List.map R83 r_.bank.spots⟩] := by
 unfold Qs at h
 replace h := Qa h
 refine Qt (by kernel_rfl) Tryd.func16 Y Y<|?_
 intro w0 A W φ0
 refine Zej (Ent.sel [some 0, some 1, some 2, some 1, some 2] (sr 0 Y (.ptr (r' := 0) _ _ _ Y) sn) (.cons Y (ro1 (by exact tZ_80.symm)<|rlc (.own (r' := 3) _ Y)<|rlc (.own (r' := 4) _ Y)<|rlc (.dat Y)<|rlc (.dat Y)<|rlc (.dat Y)<|rlc (.dat Y)<|rlc (.dat Y) rln)<|.dead<|.dead<|.cons Y (roO Q9)<|.cons Y (roM D83) .nil) Y Y)<|QH [some ⟨80, [[.own 3 r_.bank.memories.length, .own 4 r_.bank.spots.length, .int .i64 r_.copies, .bool r_.frozen, .bool r_.stopped, .int .i64 r_.last, .bool r_.some_]]⟩, none, none, some ⟨60, List.map O60 r_.bank.memories⟩, some ⟨83, List.map R83 r_.bank.spots⟩] Y<|Tr<|Ra Y<|Za<|Tr<|Rm Y<|Rq Y (Zt (ov Y) Y Y)<|Rq Y (Zg (ov Y) Y Y ZdG)<|Rq Y (Zg (ov Y) Y Y ZcZ)<|Rq Y (Zs (ov Y) Y Y Y ZhI Y)<|bE h fun y h_y h=>QA (Ent.meltO (r := 3) Y Q9 (fun x=>(D60 x).1) Zir)<|QA (Ent.sel [some 0, some 1, some 2, none, some 4] (sr 0 Y (.ptr (r' := 0) _ _ _ Y)<|sd 2 Y Y<|sr 3 Y (.ptr (r' := 0) _ _ _ Y)<|sr 4 Y (.ptr (r' := 0) _ _ _ Y)<|sr 5 Y (.ptr (r' := 0) _ _ _ Y)<|sr 6 Y (.ptr (r' := 0) _ _ _ Y)<|sr 7 Y (Zlc Y Y Y D60) sn) (.cons Y (ro1 (by exact tZ_80.symm)<|rlc (Zlc Y Y Y D60)<|rlc (.own (r' := 4) _ Y)<|rlc (.dat Y)<|rlc (.dat Y)<|rlc (.dat Y)<|rlc (.dat Y)<|rlc (.dat Y) rln)<|.dead<|.dead<|.row 60<|.cons Y (roM D83) .nil) Y Y)<|Rq Y (Zq (Zgf h_y)<|.cons (ov Y) (.b Y) .nil)<|Ra Y<|Za<|?_
 obtain rfl := rt h
 exact Zp<|JJ [some 0, some 1, some 2, some 4] Y (.cons (.tmp Y) .nil) (.cons Y (ro1 (by exact tZ_80.symm)<|rlc (.dat Y)<|rlc (.own _ Y)<|rlc (.dat Y)<|rlc (.dat Y)<|rlc (.dat Y)<|rlc (.dat Y)<|rlc (.dat Y) rln)<|.dead<|.dead<|.cons Y (roM D83) .nil) Y Y<|.dat Y
theorem Zgi {p : Vector Int 96} {i : Int} {r : Int} (h : ZaN p i = some r) :
 CSpec Tryd.prog gl0 75 [.rp (List.map C5 p.toList) 0, .int .i64 i] (.int .u16 r) := by
 unfold ZaN at h
 replace h := Qa h
 refine So Tryd.func75 Y fun w0 A=>Tr<|Ra Y<|Za<|K2 0 1 Y<|Tr<|Rm Y<|bE h fun q h_q h=>Rq Y (ZeB (ov Y) (ov Y) h_q)<|R2 Zfo Y<|Ra Y<|Za<|Zj<|K3 0 1 5 Y<|Tr<|Rm Y<|bE h fun q2 h_q2 h=>Rq Y (JE (ov Y) (ov Y) h_q2)<|R2 Zbt Y<|Za<|K3 0 5 11 Y<|If h Y (fun h=>?_) fun h=>?_
 ·
  refine Zj<|K2 0 5 Y<|Qn (cw := md0) (by kernel_rfl)<|D1 0 Zc Y<|D1 1 Zc Y<|D1 2 ZA Y<|bE h fun x h_x h=>Dq 3 Y (Qx (ov Y) (ov Y) Zcv h_x)<|Dq 4 Y (Zd (ov Y) tS5<|Qc<|QW (o := 0) (o' := ((i64 (q * 3)).toNat * 1)) (Zr arL)<|Q5 h_x)<|Dq 5 Y (Qm (ov Y) tI5 Zcq Y)<|bE h fun q3 h_q3 h=>Dq 6 Y (ZcW (ov Y) (ov Y) h_q3)<|D1 7 Zc Y<|D1 8 Zc Y<|D2 9 ZN Y<|D1 10 ZA Y<|bE h fun x2 h_x2 h=>Dq 11 Y (Qx (ov Y) (ov Y) Zcv h_x2)<|Dq 12 Y (Zd (ov Y) tS5<|Qc<|QW (o := 0) (o' := ((i64 ((i64 (q * 3)) + 1)).toNat * 1)) (Zr arL)<|Q5 h_x2)<|Dq 13 Y (Qm (ov Y) tI5 Zcq Y)<|bE h fun q4 h_q4 h=>Dq 14 Y (ZbF (ov Y) (ov Y) h_q4)<|D2 15 Zei Y<|D1 16 Qb Y<|Dd<|?_
  obtain rfl := rt h
  exact Zp (ZK Y (.one<|rb Y))
 ·
  refine Zl<|Zj<|K2 0 5 Y<|Qn (cw := md0) (by kernel_rfl)<|D1 0 Zc Y<|D1 1 Zc Y<|D2 2 ZN Y<|D1 3 ZA Y<|bE h fun x3 h_x3 h=>Dq 4 Y (Qx (ov Y) (ov Y) Zcv h_x3)<|Dq 5 Y (Zd (ov Y) tS5<|Qc<|QW (o := 0) (o' := ((i64 ((i64 (q * 3)) + 1)).toNat * 1)) (Zr arL)<|Q5 h_x3)<|Dq 6 Y (Qm (ov Y) tI5 Zcq Y)<|D2 7 Zac Y<|bE h fun q5 h_q5 h=>Dq 8 Y (ZcW (ov Y) (ov Y) h_q5)<|D1 9 Zc Y<|D1 10 Zc Y<|D2 11 ZN Y<|D1 12 ZA Y<|bE h fun x4 h_x4 h=>Dq 13 Y (Qx (ov Y) (ov Y) Zcv h_x4)<|Dq 14 Y (Zd (ov Y) tS5<|Qc<|QW (o := 0) (o' := ((i64 ((i64 (q * 3)) + 2)).toNat * 1)) (Zr arL)<|Q5 h_x4)<|Dq 15 Y (Qm (ov Y) tI5 Zcq Y)<|D2 16 Zei Y<|D1 17 Qb Y<|Dd<|?_
  obtain rfl := rt h
  exact Zp (ZK Y (.one<|rb Y))
theorem Zhc {p : Vector Int 96} {r : (Vector Int 64)} (h : Zcd p = some r) :
 CSpec Tryd.prog gl0 52 [.rp (List.map C5 p.toList) 0] (.agg (List.map C42 r.toList)) := by
 unfold Zcd at h
 replace h := Qa h
 refine So Tryd.func52 Y fun w0 A=>Tr<|Rx Y (ZV (row := (List.map C42 (Vector.replicate 64 0).toList)) 0 Y ZeQ Y tZ_44)<|Za<|Tr<|Rx Y (ZV (row := (List.map C42 (Vector.replicate 64 0).toList)) 1 Y ZeQ Y tZ_44)<|Za<|I1 (fun f=>⟨[(2, .ptr 0 1 0 0), (3, .ptr 1 1 0 0)], [some ⟨44, [(List.map C42 (Vector.replicate 64 0).toList)]⟩, some ⟨44, [(List.map C42 f.toList)]⟩]⟩) h (fun h=>?_) fun f h=>?_
 ·
  refine Tr<|Rm Y<|Za<|Zi<|?_
  obtain ⟨r1, hl1, ho1⟩ := Q2 h
  refine L2 (fun f2 i=>⟨[(0, .rp (List.map C5 p.toList) 0), (2, .ptr 0 1 0 0), (3, .ptr 1 1 0 0), (5, .int .i64 i)], [some ⟨44, [(List.map C42 (Vector.replicate 64 0).toList)]⟩, some ⟨44, [(List.map C42 f2.toList)]⟩]⟩) hl1 (ES [some 0, some 1]) fun n1 f2 i h=>?_
  unfold Zbp at h
  refine Tr<|R2 ZX Y<|Za<|Zj<|If h Y (fun h=>?_) fun h=>?_
  ·
   exact Zl<|Zj<|Zi<|K4 0 2 3 5 Y<|Tr<|Rm Y<|Ra Y<|Za<|K5 0 2 3 4 5 Y<|Zu<|Rm Y<|Rm Y<|Rm Y<|bE h fun y h_y h=>Rq Y (Zq (Zgi h_y)<|.cons (ov Y) (.b Y)<|.cons (ov Y) (.b Y) .nil)<|bE h fun x h_x h=>Rq Y (X4 (ov Y) (ov Y) JC Y Y h_x)<|Rx Y (Zh (ov Y) (ov Y) (Ze Zau) Y Y Y (arB h_x) (Zb Y)<|arS h_x)<|Za<|K4 0 2 3 5 Y<|Zu<|R2 ZN Y<|Rm Y<|Za<|⟨_, h, ES [some 0, some 1]⟩
  ·
   refine ZI<|?_
   replace h := lx h ▸ ho1
   exact ⟨_, h, ES [some 0, some 1]⟩
 ·
  refine Tr<|Rq Y (Qj (ov Y) Y Y Y XG (Qr<|Zr arL) arL (hns := (nsM fun _ => Y)))<|Rx Y (Zh (ov Y) (ov Y) (Zw XG arL) Y Y Y (Zad (Zr arL) arL) (Zb<|arC fun _ => Y)<|XO<|Eq.trans arL<|Eq.symm arL)<|Za<|?_
  obtain rfl := rt h
  exact Zp (ZK Y (.one<|.agg Y Y Y Y XG (Qr<|Zr arL) arL (pwB<|arD fun _ => Y) (hns := (nsM fun _ => Y))))
theorem Zeu {b : List Int} {r : (Vector Int 64) × Int} (h : XX b = some r) :
 CSpec Tryd.prog gl0 30 [.sl 5 (List.map R5 b)] (.tuple [.agg (List.map C42 r.1.toList), .int .i64 r.2]) := by
 unfold XX at h
 replace h := Qa h
 refine So Tryd.func30 Y fun w0 A=>Tr<|Rx Y (ZV (row := (List.map C42 (Vector.replicate 64 0).toList)) 0 Y ZeQ Y tZ_44)<|Ra Y<|Za<|Zj<|K2 0 2 Y<|Tr<|Rm Y<|Rl tZ_5 Qk Y<|R2 ZX Y<|Za<|K3 0 2 7 Y<|If h Y (fun h=>?_) fun h=>?_
 ·
  refine K1 2 Y<|Tr<|R_q (.agg<|List.map C42 (#v[0, 0, 0, 0, 0, 0, 0, 0, 0, 0, 0, 0, 0, 0, 0, 0, 0, 0, 0, 0, 0, 0, 0, 0, 0, 0, 0, 0, 0, 0, 0, 0, 0, 0, 0, 0, 0, 0, 0, 0, 0, 0, 0, 0, 0, 0, 0, 0, 0, 0, 0, 0, 0, 0, 0, 0, 0, 0, 0, 0, 0, 0, 0, 0] : Vector Int 64).toList) Y (ZcT (ys := [_, _, _, _, _, _, _, _, _, _, _, _, _, _, _, _, _, _, _, _, _, _, _, _, _, _, _, _, _, _, _, _, _, _, _, _, _, _, _, _, _, _, _, _, _, _, _, _, _, _, _, _, _, _, _, _, _, _, _, _, _, _, _, _]) JC ZeQ .nil Y)<|Rx Y (Zh (ov Y) (ov Y) (Zw XG arL) Y Y Y (Zad (Zr arL) arL) (Zb<|arC fun _ => Y)<|XO<|Eq.trans arL<|Eq.symm arL)<|Ra Y<|Za<|?_
  obtain rfl := rt h
  exact Zp (ZK Y (.two (.agg Y Y Y Y XG (Qr<|Zr arL) arL (pwB<|arD fun _ => Y) (hns := (nsM fun _ => Y)))<|rb Y))
 ·
  refine Zl<|K2 0 2 Y<|Tr<|Rm Y<|bE h fun l h_l h=>Rq Y (ZgK (ov Y) Qk on (oi<|ov Y) h_l)<|bE h fun v h_v h=>Rq Y (ZiF (f := C5) (ov Y) Zcv tZ_5 Y h_v)<|Rq Y (QU (ov Y) Zkr (Qr<|Zr arL) arL)<|Rx Y (ZV (row := (List.map C5 (Vector.replicate 96 0).toList)) 1 Y Zkx Y tZ_109)<|Rx Y (Zh (ov Y) (ov Y) (Zw Zkr arL) Y Y Y (Zad (Zr arL) arL) (Zb<|arC fun _ => Y)<|XO<|Eq.trans arL<|Eq.symm arL)<|Za<|K2 2 4 Y<|Tr<|bE h fun y h_y h=>Rq Y (ZbV (Zhc h_y) (Zh6 fun _=>.int)<|.cons (ov Y) (View.ptr Y Y Y (pwB<|arD fun _ => Y) (hns := (nsM fun _ => Y))) .nil)<|Rx Y (Zh (ov Y) (ov Y) (Zw XG arL) Y Y Y (Zad (Zr arL) arL) (Zb<|arC fun _ => Y)<|XO<|Eq.trans arL<|Eq.symm arL)<|Ra Y<|Za<|?_
  obtain rfl := rt h
  exact Zp (ZK Y (.two (.agg Y Y Y Y XG (Qr<|Zr arL) arL (pwB<|arD fun _ => Y) (hns := (nsM fun _ => Y)))<|rb Y))
theorem Zga {l : List api_Memory} {r : (List api_Kept) × Int} (h : Zal l = some r) :
 CSpec Tryd.prog gl0 12 [.sl 60 (List.map R60 l)] (.tuple [.sl 51 (List.map R51 r.1), .int .i64 r.2]) := by
 unfold Zal at h
 replace h := Qa h
 refine So Tryd.func12 Y fun w0 A=>Tr<|Ra Y<|Ra Y<|Za<|Zj<|K1 0 Y<|Tr<|Rm Y<|bE h fun y h_y h=>Rq Y (Zq (ZcP h_y)<|.cons (ov Y) (.b Y) .nil)<|Ra Y<|Za<|K2 0 4 Y<|Tr<|Rm Y<|R2 XI Y<|Za<|K3 0 4 20 Y<|If h Y (fun h=>?_) fun h=>?_
 ·
  refine K1 4 Y<|Tr<|Rm Y<|Ra Y<|Ra Y<|Za<|?_
  obtain rfl := rt h
  exact Zp (ZK Y (.two (.tmp Y<|View.nils 51)<|rb Y))
 ·
  refine Zl<|K1 0 Y<|Tr<|Ra Y<|Za<|I1 (fun out=>⟨[(5, .own 0 out.length)], [some ⟨51, List.map R51 out⟩]⟩) h (fun h=>?_) fun out h=>?_
  ·
   refine Tr<|Rm Y<|Rl tZ_60 Zcj Y<|Rm Y<|Za<|Zi<|?_
   obtain ⟨r1, hl1, ho1⟩ := Q2 h
   refine L2 (fun out2 i=>⟨[(5, .own 0 out2.length), (22, .sl 60 (List.map R60 l)), (23, .int .i64 (l.length : Int)), (24, .int .i64 i)], [some ⟨51, List.map R51 out2⟩]⟩) hl1 (ES [none]) fun n1 out2 i h=>?_
   unfold JV at h
   refine Tr<|R2 ZX Y<|Za<|Zj<|If h Y (fun h=>?_) fun h=>?_
   ·
    refine Zl<|I1 (fun out3=>⟨[(5, .own 0 out3.length), (22, .sl 60 (List.map R60 l)), (23, .int .i64 (l.length : Int)), (24, .int .i64 i)], [some ⟨51, List.map R51 out3⟩]⟩) h (fun h=>?_) fun out3 h=>?_
    ·
     refine Zi<|K4 5 22 23 24 Y<|Tr<|Rm Y<|bE h fun x h_x h=>Rq Y (Z5 (ov Y) (ov Y) Zcj h_x)<|Rq Y (QU (ov Y) XT Y Y)<|Rx Y (ZV (row := [_, _, _, _, _]) 1 Y ZcM Y tZ_60)<|Ra Y<|Rx Y (Zh (ov Y) (ov Y) (Zw XT Y) Y Y Y (Nat.le_of_ble_eq_true Y) (Zb Y) Y)<|Za<|K6 5 6 7 22 23 24 Y<|Tr<|Rq Y (Qj (ov Y) Y Y Y XT Y Y)<|bE h fun y2 h_y2 h=>Rq Y (Zq (Zdi h_y2)<|.cons (ov Y) (.aggB Y) .nil)<|Rl tZ_3 Xt Y<|Rm Y<|Za<|Zi<|?_
     obtain ⟨r2, hl2, ho2⟩ := Q2 h
     refine L2 (fun out4 i2=>⟨[(5, .own 0 out4.length), (6, .int .i64 i), (7, .ptr 1 1 0 0), (22, .sl 60 (List.map R60 l)), (23, .int .i64 (l.length : Int)), (24, .int .i64 i), (30, .sl 3 (List.map R3 y2)), (31, .int .i64 (y2.length : Int)), (32, .int .i64 i2)], [some ⟨51, List.map R51 out4⟩, some ⟨60, [[.int .i64 x.Slots, .int .i64 x.Limit, .sl 29 (List.map R29 x.Sectors), .sl 3 (List.map R3 x.Wear), .sl 4 (List.map R4 x.Bad)]]⟩]⟩) hl2 (ES [some 0, some 1]) fun n2 out4 i2 h=>?_
     unfold JT at h
     refine Tr<|R2 ZX Y<|Za<|Zj<|If h Y (fun h=>?_) fun h=>?_
     ·
      refine Zl<|I1 (fun out5=>⟨[(5, .own 0 out5.length), (6, .int .i64 i), (7, .ptr 1 1 0 0), (22, .sl 60 (List.map R60 l)), (23, .int .i64 (l.length : Int)), (24, .int .i64 i), (30, .sl 3 (List.map R3 y2)), (31, .int .i64 (y2.length : Int)), (32, .int .i64 i2)], [some ⟨51, List.map R51 out5⟩, some ⟨60, [[.int .i64 x.Slots, .int .i64 x.Limit, .sl 29 (List.map R29 x.Sectors), .sl 3 (List.map R3 x.Wear), .sl 4 (List.map R4 x.Bad)]]⟩]⟩) h (fun h=>?_) fun out5 h=>?_
      ·
       refine Zi<|K9 5 6 7 22 23 24 30 31 32 Y<|Tr<|bE h fun x2 h_x2 h=>Rq Y (Z5 (ov Y) (ov Y) Xt h_x2)<|Rq Y (Zd (ov Y) tS3 Y)<|Ra Y<|Za<|K10 5 6 7 9 22 23 24 30 31 32 Y<|Tr<|Rq Y (Zg (ov Y) Y Y ZE)<|Rq Y (Zs (ov Y) Y Y Y Z4 Y)<|Rm Y<|bE h fun x3 h_x3 h=>Rq Y (Z5 (ov Y) (ov Y) ZU h_x3)<|Rq Y (Zd (ov Y) Zf5 Y)<|bE h fun y3 h_y3 h=>Rq Y (Zq (ZaB h_y3)<|.cons (ov Y) (.b Y) .nil)<|Rm Y<|Rq Y (Zn (ov Y) Y)<|Rq Y (Zn (ov Y) Y)<|Rq Y (Zn (ov Y) Y)<|Ra Y<|Ra Y<|Ra Y<|Za<|K11 5 6 7 9 10 22 23 24 30 31 32 Y<|Tr<|Rq Y (Zg (ov Y) Y Y ZgS)<|Rq Y (Zs (ov Y) Y Y Y tS3 Y)<|Rm Y<|Za<|Zi<|?_
       obtain ⟨r3, hl3, ho3⟩ := Q2 h
       refine L2 (fun out6 i3=>⟨[(5, .own 0 out6.length), (6, .int .i64 i), (7, .ptr 1 1 0 0), (9, .int .i64 x2), (10, .int .i64 y3.1), (22, .sl 60 (List.map R60 l)), (23, .int .i64 (l.length : Int)), (24, .int .i64 i), (30, .sl 3 (List.map R3 y2)), (31, .int .i64 (y2.length : Int)), (32, .int .i64 i2), (47, .int .i64 x.Slots), (48, .int .i64 i3)], [some ⟨51, List.map R51 out6⟩, some ⟨60, [[.int .i64 x.Slots, .int .i64 x.Limit, .sl 29 (List.map R29 x.Sectors), .sl 3 (List.map R3 x.Wear), .sl 4 (List.map R4 x.Bad)]]⟩]⟩) hl3 (ES [some 0, some 1]) fun n3 out6 i3 h=>?_
       unfold JX at h
       refine Tr<|R2 ZX Y<|Za<|Zj<|If h Y (fun h=>?_) fun h=>?_
       ·
        refine Zl<|Zj<|Zi<|Xx (kc 5 Y<|kc 6 Y<|kc 7 Y<|kc 9 Y<|kc 10 Y<|kc 22 Y<|kc 23 Y<|kc 24 Y<|kc 30 Y<|kc 31 Y<|kc 32 Y<|kc 47 Y<|kc 48 Y kn) Y<|Tr<|Rm Y<|Ra Y<|Za<|Xx (kc 5 Y<|kc 6 Y<|kc 7 Y<|kc 9 Y<|kc 10 Y<|kc 13 Y<|kc 22 Y<|kc 23 Y<|kc 24 Y<|kc 30 Y<|kc 31 Y<|kc 32 Y<|kc 47 Y<|kc 48 Y kn) Y<|Tr<|Rq Y (Zg (ov Y) Y Y ZE)<|Rq Y (Zs (ov Y) Y Y Y Z4 Y)<|Rm Y<|bE h fun x4 h_x4 h=>Rq Y (Z5 (ov Y) (ov Y) ZU h_x4)<|Rq Y (Zd (ov Y) Zf5 Y)<|Rm Y<|bE h fun y4 h_y4 h=>Rq Y (Zq (Zdw h_y4)<|.cons (ov Y) (.b Y)<|.cons (ov Y) (.b Y) .nil)<|Ra Y<|Za<|Xx (kc 5 Y<|kc 6 Y<|kc 7 Y<|kc 9 Y<|kc 10 Y<|kc 13 Y<|kc 14 Y<|kc 22 Y<|kc 23 Y<|kc 24 Y<|kc 30 Y<|kc 31 Y<|kc 32 Y<|kc 47 Y<|kc 48 Y kn) Y<|Tr<|Rm Y<|bE h fun y5 h_y5 h=>Rq Y (Zq (Zde h_y5)<|.cons (ov Y) (.b Y) .nil)<|R2 Zbt Y<|Za<|Xx (kc 5 Y<|kc 6 Y<|kc 7 Y<|kc 9 Y<|kc 10 Y<|kc 13 Y<|kc 14 Y<|kc 22 Y<|kc 23 Y<|kc 24 Y<|kc 30 Y<|kc 31 Y<|kc 32 Y<|kc 47 Y<|kc 48 Y<|kc 60 Y kn) Y<|If h Y (fun h=>?_) fun h=>?_
        ·
         exact Xx (kc 5 Y<|kc 6 Y<|kc 7 Y<|kc 9 Y<|kc 10 Y<|kc 13 Y<|kc 14 Y<|kc 22 Y<|kc 23 Y<|kc 24 Y<|kc 30 Y<|kc 31 Y<|kc 32 Y<|kc 47 Y<|kc 48 Y kn) Y<|Tr<|Rm Y<|R1 ZA Y<|bE h fun l2 h_l2 h=>Rq Y (ZiO (f := C5) (ov Y) ZiS tZ_5 (Zr arL) Y on on h_l2)<|bE h fun y6 h_y6 h=>Rq Y (Zq (Zeu h_y6)<|.cons (ov Y) (.b Y) .nil)<|Rm Y<|Rq Y (Zn (ov Y) Y)<|Rq Y (Zn (ov Y) Y)<|Rx Y (ZV (row := (List.map C42 (Vector.replicate 64 0).toList)) 2 Y ZeQ Y tZ_44)<|Rx Y (Zh (ov Y) (ov Y) (Zw XG arL) Y Y Y (Zad (Zr arL) arL) (Zb<|arC fun _ => Y)<|XO<|Eq.trans arL<|Eq.symm arL)<|Ra Y<|Za<|Xx (kc 5 Y<|kc 6 Y<|kc 7 Y<|kc 9 Y<|kc 10 Y<|kc 13 Y<|kc 15 Y<|kc 22 Y<|kc 23 Y<|kc 24 Y<|kc 30 Y<|kc 31 Y<|kc 32 Y<|kc 47 Y<|kc 48 Y kn) Y<|Zu<|Rm Y<|Rm Y<|Rm Y<|Rm Y<|Rm Y<|Rq Y (Qj (ov Y) Y Y Y XG (Qr<|Zr arL) arL (hns := (nsM fun _ => Y)))<|Rq Y (ZjR (zr := (.int .i64 0) :: (.int .i64 0) :: (.int .i64 0) :: (.int .i64 0) :: ((List.map C42 (Vector.replicate 64 0).toList) ++ ([]))) Zls Zlg ZkD (by kernel_rfl) (.cons (cvs (ov Y)<|Zk Y)<|.cons (cvs (ov Y)<|Zk Y)<|.cons (cvs (ov Y)<|Zk Y)<|.cons (cvs (ov Y)<|Zk Y)<|.cons (cva<|ov Y) .nil)<|ZeU Y Y at1 pt2<|ZeU Y Y at3 pt4<|ZeU Y Y at5 pt6<|ZeU Y Y at7 pt8<|ZeU Y arL at9 Zlx ZkF)<|R_q (.sl 51<|List.map R51 ([(api_Kept.mk i x2 y3.1 i3 y6.1)] : List api_Kept)) Y (XU Zkd (.cons (cva<|ov Y) Zcn (pwD Zek) .nil) Y Y)<|bE h fun l3 h_l3 h=>Rx Y (QN (ov Y) (QR (ov Y) tZ_51) Zkd Y Y Y (fun x=>Zb<|E51 x) Y h_l3)<|Ra Y<|Za<|Xx (kc 5 Y<|kc 6 Y<|kc 7 Y<|kc 9 Y<|kc 10 Y<|kc 22 Y<|kc 23 Y<|kc 24 Y<|kc 30 Y<|kc 31 Y<|kc 32 Y<|kc 47 Y<|kc 48 Y kn) Y<|Zu<|R2 ZN Y<|Rm Y<|Za<|⟨_, h, ES [some 0, some 1]⟩
        ·
         exact Zl<|Xx (kc 5 Y<|kc 6 Y<|kc 7 Y<|kc 9 Y<|kc 10 Y<|kc 22 Y<|kc 23 Y<|kc 24 Y<|kc 30 Y<|kc 31 Y<|kc 32 Y<|kc 47 Y<|kc 48 Y kn) Y<|Zu<|R2 ZN Y<|Rm Y<|Za<|⟨_, h, ES [some 0, some 1]⟩
       ·
        refine ZI<|?_
        replace h := lx h ▸ ho3
        exact ⟨_, h, ES [some 0, some 1]⟩
      ·
       exact Zu<|R2 ZN Y<|Rm Y<|Za<|⟨_, h, ES [some 0, some 1]⟩
     ·
      refine ZI<|?_
      replace h := lx h ▸ ho2
      exact ⟨_, h, ES [some 0]⟩
    ·
     exact Zu<|R2 ZN Y<|Rm Y<|Za<|⟨_, h, ES [some 0]⟩
   ·
    refine ZI<|?_
    replace h := lx h ▸ ho1
    exact ⟨_, h, ES [some 0]⟩
  ·
   refine Tr<|Rm Y<|Ra Y<|Ra Y<|Za<|?_
   obtain rfl := rt h
   exact Zp (ZK Y (.two (.tmp Y<|View.ownM Y Y D51)<|rb Y))
theorem Zi6 {xs r : List Int} (h : Zf3 xs = some r) :
    GSpec Tryd.prog gl0 43 [.own 0 xs.length] [some ⟨3, List.map R3 xs⟩] (.tuple []) [some ⟨3, List.map R3 r⟩] :=
  ZjY (g := R3) (fun _ => rfl) (by kernel_rfl) tZ_3 (fun _ _ _ _ _ h1 h2 h3 => Any.slices_Sort_int Tryd.lays189 _ _ _ _ _ h1 h2 h3) (fun p c w => Any.slices_Sort_int_none Tryd.lays189 p c w) h
theorem Zgr {l : List api_Memory} {r : (List (Vector Int 64)) × Int} (h : Zbz l = some r) :
 CSpec Tryd.prog gl0 23 [.sl 60 (List.map R60 l)] (.tuple [.sl 44 (List.map R44 r.1), .int .i64 r.2]) := by
 unfold Zbz at h
 replace h := Qa h
 refine So Tryd.func23 Y fun w0 A=>Tr<|Ra Y<|Ra Y<|Za<|K1 0 Y<|Tr<|Rm Y<|bE h fun y h_y h=>Rq Y (Zq (Zga h_y)<|.cons (ov Y) (.b Y) .nil)<|Rm Y<|Rq Y (Zn (ov Y) Y)<|Rq Y (Zn (ov Y) Y)<|Ra Y<|Ra Y<|Za<|Zj<|K2 4 5 Y<|Tr<|Rm Y<|R2 XI Y<|Za<|K3 4 5 23 Y<|If h Y (fun h=>?_) fun h=>?_
 ·
  refine K1 5 Y<|Tr<|Rm Y<|Ra Y<|Ra Y<|Za<|?_
  obtain rfl := rt h
  exact Zp (ZK Y (.two (.tmp Y<|View.nils 44)<|rb Y))
 ·
  refine Zl<|K1 4 Y<|Tr<|Rx Y (Zi3 0 Y ZiX)<|Ra Y<|Za<|K2 4 6 Y<|Tr<|Ra Y<|Za<|I2 (fun best numbers=>⟨[(6, .mref 0 1), (7, .own 1 numbers.length)], [some ⟨97, [[.mcon (List.map (JN FK3 Zd4) best)]]⟩, some ⟨3, List.map R3 numbers⟩]⟩) h (fun h=>?_) fun best numbers h=>?_
  ·
   refine Tr<|Rm Y<|Rl tZ_51 Zkd Y<|Rm Y<|Za<|Zi<|?_
   obtain ⟨r1, hl1, ho1⟩ := Q2 h
   refine L3 (fun best2 numbers2 i=>⟨[(6, .mref 0 1), (7, .own 1 numbers2.length), (26, .sl 51 (List.map R51 y.1)), (27, .int .i64 (y.1.length : Int)), (28, .int .i64 i)], [some ⟨97, [[.mcon (List.map (JN FK3 Zd4) best2)]]⟩, some ⟨3, List.map R3 numbers2⟩]⟩) hl1 (ES [some 0, none] (hhp := .cons Y (ZeY (fk := FK3) (fv := Zd4) (m := ([] : List (Int × api_Kept))) tZ_97 (fun _=>.dat Y) fun _=>.ren<|Zdr<|rld Zek)<|.row 3 .nil)) fun n1 best2 numbers2 i h=>?_
   unfold ZaF at h
   refine Tr<|R2 ZX Y<|Za<|Zj<|If h Y (fun h=>?_) fun h=>?_
   ·
    refine Zl<|Zj<|Zi<|K5 6 7 26 27 28 Y<|Tr<|bE h fun x h_x h=>Rq Y (Z5 (ov Y) (ov Y) Zkd h_x)<|Rq Y (QU (ov Y) Zkm (Qr<|Zr Zcn) Zcn)<|Rx Y (ZV (row := (.int .i64 0) :: (.int .i64 0) :: (.int .i64 0) :: (.int .i64 0) :: ((List.map C42 (Vector.replicate 64 0).toList) ++ ([]))) 2 Y ZkD (by kernel_rfl)<|by exact Eq.symm (Eq.trans (b := 68) Zcn tZ_51.symm))<|Rx Y (Zh (ov Y) (ov Y) (Zw Zkm Zcn) Y Y Y (Zad (Zr Zcn) Zcn) (Zb Zk5)<|XO<|Eq.trans Zcn<|Eq.symm Zcn)<|Za<|Zj<|K6 6 7 9 26 27 28 Y<|Tr<|Rq Y (Zg (ov Y) Y Y Zju)<|Rq Y (Qj (ov Y) Y Y Y XG (Qr at9) arL (hns := (nsM fun _ => Y)))<|bE h fun y2 h_y2 h=>Rq Y (Zq (ZdI h_y2)<|.cons (ov Y) (.aggB<|arD fun _ => Y) .nil)<|Rl tZ_114 ZfI Y<|R2 Zcm Y<|Za<|K7 6 7 9 26 27 28 36 Y<|If h Y (fun h=>?_) fun h=>?_
    ·
     exact ZI<|K5 6 7 26 27 28 Y<|Zu<|R2 ZN Y<|Rm Y<|Za<|⟨_, h, ES [some 0, some 1] (hhp := .cons Y (ZeY (fk := FK3) (fv := Zd4) (m := best2) tZ_97 (fun _=>.dat Y) fun _=>.ren<|Zdr<|rld Zek)<|.cons Y (roM D3) .nil)⟩
    ·
     refine Zl<|K6 6 7 9 26 27 28 Y<|Tr<|Rq Y (Zg (ov Y) Y Y Zju)<|Rq Y (Qj (ov Y) Y Y Y XG (Qr at9) arL (hns := (nsM fun _ => Y)))<|bE h fun y3 h_y3 h=>Rq Y (Zq (Zdg h_y3)<|.cons (ov Y) (.aggB<|arD fun _ => Y) .nil)<|Rm Y<|Rq Y (Zn (ov Y) Y)<|Rq Y (Zn (ov Y) Y)<|Ra Y<|Ra Y<|Za<|K7 6 7 9 10 26 27 28 Y<|Tr<|Rm Y<|Rm Y<|bE h fun o h_o h=>Rq Y (Zlb (m := best2) (fk := FK3) (fv := Zd4) (k := y3.1) (z0 := (api_Kept.mk 0 0 0 0 (Vector.replicate 64 0))) (ov Y) (ov Y) ZiX ZkP Y (fun _=>.b Y) (ZhO Zkw Y) (fun _ _=>Y) h_o)<|Rm Y<|Rq Y (Zn (ov Y) Y)<|Rq Y (Zn (ov Y) Y)<|Rx Y (ZV (row := (.int .i64 0) :: (.int .i64 0) :: (.int .i64 0) :: (.int .i64 0) :: ((List.map C42 (Vector.replicate 64 0).toList) ++ ([]))) 3 Y ZkD (by kernel_rfl)<|by exact Eq.symm (Eq.trans (b := 68) Zcn tZ_51.symm))<|Rx Y (Zh (ov Y) (ov Y) (Zw Zkm Zcn) Y Y Y (Zad (Zr Zcn) Zcn) (Zb Zk5)<|XO<|Eq.trans Zcn<|Eq.symm Zcn)<|Ra Y<|Za<|I1 (fun numbers3=>⟨[(6, .mref 0 1), (7, .own 1 numbers3.length), (9, .ptr 2 1 0 0), (10, .int .i64 y3.1), (12, .ptr 3 1 0 0), (13, .bool o.isSome), (26, .sl 51 (List.map R51 y.1)), (27, .int .i64 (y.1.length : Int)), (28, .int .i64 i)], [some ⟨97, [[.mcon (List.map (JN FK3 Zd4) best2)]]⟩, some ⟨3, List.map R3 numbers3⟩, some ⟨51, [(.int .i64 x.Memory) :: (.int .i64 x.Sector) :: (.int .i64 x.Sequence) :: (.int .i64 x.Slot) :: ((List.map C42 x.Frame.toList) ++ ([]))]⟩, some ⟨51, [(.int .i64 ((o.getD (api_Kept.mk 0 0 0 0 (Vector.replicate 64 0))).Memory)) :: (.int .i64 ((o.getD (api_Kept.mk 0 0 0 0 (Vector.replicate 64 0))).Sector)) :: (.int .i64 ((o.getD (api_Kept.mk 0 0 0 0 (Vector.replicate 64 0))).Sequence)) :: (.int .i64 ((o.getD (api_Kept.mk 0 0 0 0 (Vector.replicate 64 0))).Slot)) :: ((List.map C42 ((o.getD (api_Kept.mk 0 0 0 0 (Vector.replicate 64 0))).Frame).toList) ++ ([]))]⟩]⟩) h (fun h=>?_) fun numbers3 h=>?_
     ·
      refine K9 6 7 9 10 12 13 26 27 28 Y<|Tr<|Rm Y<|R1 Ji Y<|Za<|K10 6 7 9 10 12 13 26 27 28 50 Y<|If h Y (fun h=>?_) fun h=>?_
      ·
       exact K9 6 7 9 10 12 13 26 27 28 Y<|Zu<|Rm Y<|Rm Y<|R_q (.sl 3<|List.map R3 ([y3.1] : List Int)) Y (XU Xt (.cons (cvs (ov Y)<|Zk Y) Y (.cons (.b Y) .nil) .nil) Y Y)<|bE h fun l2 h_l2 h=>Rx Y (QN (ov Y) (QR (ov Y) tZ_3) Xt Y Y Y (fun _=>Zb Y) Y h_l2)<|Ra Y<|Za<|⟨_, h, ES [some 0, some 1, some 2, some 3] (hhp := .cons Y (ZeY (fk := FK3) (fv := Zd4) (m := best2) tZ_97 (fun _=>.dat Y) fun _=>.ren<|Zdr<|rld Zek)<|.cons Y (roM D3)<|.cons Y (ro1 (by exact Eq.trans (b := 68) Zcn tZ_51.symm)<|rld Zek)<|.cons Y (ro1 (by exact Eq.trans (b := 68) Zcn tZ_51.symm)<|rld Zek) .nil)⟩
      ·
       exact Zl<|⟨_, h, ES [some 0, some 1, some 2, some 3] (hhp := .cons Y (ZeY (fk := FK3) (fv := Zd4) (m := best2) tZ_97 (fun _=>.dat Y) fun _=>.ren<|Zdr<|rld Zek)<|.cons Y (roM D3)<|.cons Y (ro1 (by exact Eq.trans (b := 68) Zcn tZ_51.symm)<|rld Zek)<|.cons Y (ro1 (by exact Eq.trans (b := 68) Zcn tZ_51.symm)<|rld Zek) .nil)⟩
     ·
      refine Tr<|Rm Y<|R1 Ji Y<|Rm Y<|Rq Y (.guarded ((!o.isSome) == false) Y Y Y Y fun h => Zg (ov Y) Y Y Zjh)<|Rq Y (.guarded ((!o.isSome) == false) Y Y Y Y fun h => Zs (ow Y h) Y Y Y tS3<|Qc at5)<|Rq Y (.guarded ((!o.isSome) == false) Y Y Y Y fun h => Zg (ov Y) Y Y Zjh)<|Rq Y (.guarded ((!o.isSome) == false) Y Y Y Y fun h => Zs (ow Y h) Y Y Y tS3<|Qc at5)<|Rq Y (.guarded ((!o.isSome) == false) Y Y Y Y fun h => Zcm (ow Y h)<|ow Y h)<|Rq Y (Zev (ov Y) fun hp=>ow Y<|gF hp)<|Za<|K8 6 7 9 10 26 27 28 63 Y<|If h Y (fun h=>?_) fun h=>?_
      ·
       exact K7 6 7 9 10 26 27 28 Y<|Zu<|Rm Y<|Rm Y<|Rq Y (Qj (ov Y) Y Y Y Zkm (Qr<|Zr Zcn) Zcn (hns := Zlv))<|Rx Y (Zjz (m := best2) (fk := FK3) (fv := Zd4) (k := y3.1) (v := x) (ov Y) (ov Y) (ov Y) ZiX ZkP Y fun _=>.b Y)<|Za<|K5 6 7 26 27 28 Y<|Zu<|R2 ZN Y<|Rm Y<|Za<|⟨_, h, ES [some 0, some 1] (hhp := .cons Y (ZeY (fk := FK3) (fv := Zd4) (m := (ZhM kqI best2 y3.1 x)) tZ_97 (fun _=>.dat Y) fun _=>.ren<|Zdr<|rld Zek)<|.cons Y (roM D3) .nil)⟩
      ·
       exact Zl<|K5 6 7 26 27 28 Y<|Zu<|R2 ZN Y<|Rm Y<|Za<|⟨_, h, ES [some 0, some 1] (hhp := .cons Y (ZeY (fk := FK3) (fv := Zd4) (m := best2) tZ_97 (fun _=>.dat Y) fun _=>.ren<|Zdr<|rld Zek)<|.cons Y (roM D3) .nil)⟩
   ·
    refine ZI<|?_
    replace h := lx h ▸ ho1
    exact ⟨_, h, ES [some 0, some 1] (hhp := .cons Y (ZeY (fk := FK3) (fv := Zd4) (m := best2) tZ_97 (fun _=>.dat Y) fun _=>.ren<|Zdr<|rld Zek)<|.cons Y (roM D3) .nil)⟩
  ·
   refine Tr<|Rm Y<|bE h fun y4 h_y4 h=>Rx Y (ZC [1] (Zi6 h_y4) (.cons (ov Y) (.own _ Y) .nil) (.cons Y (roM D3) .nil) Y (.keep Y Y<|.lent 0 (.inl Y) Y (roM D3) .nil) Y Y<|Xc<|rld Y)<|Za<|K2 6 7 Y<|Tr<|Ra Y<|Za<|I1 (fun out=>⟨[(14, .own 0 out.length)], [some ⟨44, List.map R44 out⟩]⟩) h (fun h=>?_) fun out h=>?_
   ·
    refine Tr<|Rm Y<|Rq Y (Zc8 (ov Y) Y (ZgP h_y4) Xt)<|Rm Y<|Za<|Zi<|?_
    obtain ⟨r2, hl2, ho2⟩ := Q2 h
    refine L2 (fun out2 i2=>⟨[(6, .mref 0 1), (14, .own 1 out2.length), (70, .own 2 y4.length), (71, .int .i64 (y4.length : Int)), (72, .int .i64 i2)], [some ⟨97, [[.mcon (List.map (JN FK3 Zd4) best)]]⟩, some ⟨44, List.map R44 out2⟩, some ⟨3, List.map R3 y4⟩]⟩) hl2 (Ent.sel [some 0, none, some 1] (sr 6 Y (.mref _ Y)<|sr 14 Y (.row Y)<|sr 70 Y (Zen (Eq.symm<|ZgP h_y4) Y)<|sd 71 Y Y<|sd 72 Y Y sn) (.cons Y (ZeY (fk := FK3) (fv := Zd4) (m := best) tZ_97 (fun _=>.dat Y) fun _=>.ren<|Zdr<|rld Zek)<|.row 44<|.cons Y (roM D3) .nil) Y Y) fun n2 out2 i2 h=>?_
    unfold ZaX at h
    refine Tr<|R2 ZX Y<|Za<|Zj<|If h Y (fun h=>?_) fun h=>?_
    ·
     exact Zl<|Zj<|Zi<|K5 6 14 70 71 72 Y<|Tr<|bE h fun x2 h_x2 h=>Rq Y (Xd (ov Y) (ov Y) Xt Y Y h_x2)<|Rq Y (QY (ov Y) Y Y h_x2 tS3 Y)<|Ra Y<|Za<|K6 6 14 16 70 71 72 Y<|Zu<|Rm Y<|Rm Y<|Rm Y<|bE h fun o2 h_o2 h=>Rq Y (Zk9 (m := best) (fk := FK3) (fv := Zd4) (k := x2) (z0 := (api_Kept.mk 0 0 0 0 (Vector.replicate 64 0))) (ov Y) (ov Y) ZiX ZkP Y (fun _=>.b Y) (ZhO Zkw Y) (fun _ _=>Y) h_o2)<|Rq Y (ZjA (ov Y) Zka at9)<|R_q (.sl 44<|List.map R44 ([o2.Frame] : List (Vector Int 64))) Y (XU Zj4 (.cons (cva<|ov Y) arL (pwD<|arD fun _ => Y) .nil) Y Y)<|bE h fun l3 h_l3 h=>Rx Y (QN (ov Y) (QR (ov Y) tZ_44) Zj4 Y Y Y (fun x=>Zb<|E44 x) Y h_l3)<|Ra Y<|Za<|K5 6 14 70 71 72 Y<|Zu<|R2 ZN Y<|Rm Y<|Za<|⟨_, h, ES [some 0, some 1, some 2] (hhp := .cons Y (ZeY (fk := FK3) (fv := Zd4) (m := best) tZ_97 (fun _=>.dat Y) fun _=>.ren<|Zdr<|rld Zek)<|.cons Y (roM D44)<|.cons Y (roM D3) .nil)⟩
    ·
     refine ZI<|?_
     replace h := lx h ▸ ho2
     exact ⟨_, h, ES [some 1]⟩
   ·
    refine Tr<|Rm Y<|Ra Y<|Ra Y<|Za<|?_
    obtain rfl := rt h
    exact Zp (ZK Y (.two (.tmp Y<|View.ownM Y Y D44)<|rb Y))
theorem Zhv  {r : Bool} (h : Zb3  = some r) :
 CSpec Tryd.prog gl0 9 [] (.bool r) := by
 unfold Zb3 at h
 replace h := Qa h
 refine So Tryd.func9 Y fun w0 A=>Tr<|Ra Y<|Za<|K0<|Tr<|bE h fun l h_l h=>Rx Y (JR [none] (r := 0) (f := R3) (z0 := 0) Y (ov Y) (ov Y) Xt Y tZ3 Y Y h_l)<|bE h fun y h_y h=>Rq Y (ZbV (Zh4 h_y) (.tuple<|by simp only [List.mem_cons, List.not_mem_nil, or_false, forall_eq_or_imp, forall_eq]; exact ⟨(Zh6 (fun _ => .int)), .int⟩)<|.cons (ov Y) (Dat.view<|.b Y)<|.cons (ov Y) (View.ownM Y Y D3) .nil)<|Rm Y<|Rq Y (Zn (ov Y) Y)<|Rq Y (Zn (ov Y) Y)<|Rx Y (ZV (row := (List.map C42 (Vector.replicate 64 0).toList)) 1 Y ZeQ Y tZ_44)<|Rx Y (Zh (ov Y) (ov Y) (Zw XG arL) Y Y Y (Zad (Zr arL) arL) (Zb<|arC fun _ => Y)<|XO<|Eq.trans arL<|Eq.symm arL)<|Ra Y<|Za<|K1 1 Y<|Tr<|bE h fun y2 h_y2 h=>Rq Y (Zq (Ze5 h_y2)<|.cons (ov Y) (.b Y)<|.cons (ov Y) (.b Y)<|.cons (ov Y) (.b Y) .nil)<|Rm Y<|Rq Y (Zn (ov Y) Y)<|Rq Y (Zn (ov Y) Y)<|Rx Y (ZV (row := [_, _, _, _, _]) 2 Y ZcM Y tZ_60)<|Rx Y (Zh (ov Y) (ov Y) (Zw XT Y) Y Y Y (Nat.le_of_ble_eq_true Y) (Zb Y) Y)<|Ra Y<|Za<|Zj<|K3 1 3 4 Y<|Tr<|Rm Y<|R2 XI Y<|Za<|K3 1 3 20 Y<|If h Y (fun h=>?_) fun h=>?_
 ·
  refine K0<|Tr<|Ra Y<|Za<|?_
  obtain rfl := rt h
  exact Zp (ZK Y (.one<|rb Y))
 ·
  refine Zl<|K2 1 3 Y<|Tr<|Rq Y (Qj (ov Y) Y Y Y XT Y Y)<|R_q (.sl 60<|List.map R60 ([y2.1] : List api_Memory)) Y (XU Zcj (.cons (cva<|ov Y) Y (pwD Y) .nil) Y Y)<|bE h fun y3 h_y3 h=>?_
  rcases y3 with y3 | y3
  ·
   replace h := ell h
   refine Rx Y (ZC [] (Zeg h_y3) (.cons (ov Y) (.dat Y)<|.cons (ov Y) (.dat Y) .nil) .nil Y (.keep Y Y<|.keep Y Y<|.keep Y Y .nil) Y Y<|Xc<|rlc (.dat Y)<|rlc (.dat Y) rln)<|Rm Y<|Rq Y (Zn (ov Y) Y)<|Rq Y (Zn (ov Y) Y)<|Ra Y<|Ra Y<|Za<|Zj<|K3 1 4 5 Y<|Tr<|Rm Y<|R2 XI Y<|Za<|K3 1 5 28 Y<|If h Y (fun h=>?_) fun h=>?_
   ·
    refine K0<|Tr<|Ra Y<|Za<|?_
    obtain rfl := rt h
    exact Zp (ZK Y (.one<|rb Y))
   ·
    exact Zl<|(Zh2 h).elim
  ·
   replace h := elr h
   refine Rx Y (ZC [] (Zed h_y3) (.cons (ov Y) (.dat Y)<|.cons (ov Y) (.dat Y) .nil) .nil Y (.keep Y Y<|.keep Y Y<|.keep Y Y<|.lent 0 (.inr ⟨Nat.le_of_ble_eq_true Y, Y⟩) Y (ro1 (by exact tZ_80.symm)<|rlc (.own _<|.inr ⟨Nat.le_of_ble_eq_true Y, Y⟩)<|rlc (.own _<|.inr ⟨Nat.le_of_ble_eq_true Y, Y⟩)<|rlc (.dat Y)<|rlc (.dat Y)<|rlc (.dat Y)<|rlc (.dat Y)<|rlc (.dat Y) rln)<|.lent 1 (.inr ⟨Nat.le_of_ble_eq_true Y, Y⟩) Y (roO Q9)<|.lent 2 (.inr ⟨Nat.le_of_ble_eq_true Y, Y⟩) Y (roM D83) .nil) Y Y<|Xc<|rlc (.ptr _ _ _<|.inr ⟨Nat.le_of_ble_eq_true Y, Y⟩)<|rlc (.dat Y) rln)<|Rm Y<|Rq Y (Zn (ov Y) Y)<|Rq Y (Zn (ov Y) Y)<|Ra Y<|Ra Y<|Za<|Zj<|K3 1 4 5 Y<|QH [some ⟨3, List.map R3 l⟩, some ⟨44, [(List.map C42 y.1.toList)]⟩, some ⟨60, [[.int .i64 y2.1.Slots, .int .i64 y2.1.Limit, .sl 29 (List.map R29 y2.1.Sectors), .sl 3 (List.map R3 y2.1.Wear), .sl 4 (List.map R4 y2.1.Bad)]]⟩, some ⟨80, [[.own 4 y3.1.bank.memories.length, .own 5 y3.1.bank.spots.length, .int .i64 y3.1.copies, .bool y3.1.frozen, .bool y3.1.stopped, .int .i64 y3.1.last, .bool y3.1.some_]]⟩, some ⟨60, List.map O60 y3.1.bank.memories⟩, some ⟨83, List.map R83 y3.1.bank.spots⟩] Y<|Tr<|Rm Y<|R2 XI Y<|Za<|K3 1 5 28 Y<|If h Y (fun h=>?_) fun h=>?_
   ·
    refine K0<|Tr<|Ra Y<|Za<|?_
    obtain rfl := rt h
    exact Zp (ZK Y (.one<|rb Y))
   ·
    refine Zl<|K2 1 5 Y<|Tr<|Rm Y<|Rq Y (Qj (ov Y) Y Y Y XG (Qr<|Zr arL) arL (hns := (nsM fun _ => Y)))<|bE h fun y4 h_y4 h=>Rx Y (ZC [3, 4, 5] (Zcs h_y4) (.cons (ov Y) (.ptr _ _ _ Y)<|.cons (ov Y) (Zdr<|rld<|arD fun _ => Y)<|.cons (ov Y) (.dat Y) .nil) (.cons Y (ro1 (by exact tZ_80.symm)<|rlc (.own _ Y)<|rlc (.own _ Y)<|rlc (.dat Y)<|rlc (.dat Y)<|rlc (.dat Y)<|rlc (.dat Y)<|rlc (.dat Y) rln)<|.cons Y (roO Q9)<|.cons Y (roM D83) .nil) Y (.keep Y Y<|.keep Y Y<|.keep Y Y<|.lent 0 (.inl Y) Y (ro1 (by exact tZ_80.symm)<|rlc (.own _<|.inr ⟨Nat.le_of_ble_eq_true Y, Y⟩)<|rlc (.own _<|.inr ⟨Nat.le_of_ble_eq_true Y, Y⟩)<|rlc (.dat Y)<|rlc (.dat Y)<|rlc (.dat Y)<|rlc (.dat Y)<|rlc (.dat Y) rln)<|.none<|.none<|.lent 3 (.inr ⟨Nat.le_of_ble_eq_true Y, Y⟩) Y (roO Q9)<|.lent 4 (.inr ⟨Nat.le_of_ble_eq_true Y, Y⟩) Y (roM D83) .nil) Y Y<|Xc<|rld Y)<|Rm Y<|Rq Y (Zn (ov Y) Y)<|Rq Y (Zn (ov Y) Y)<|Rq Y (Zn (ov Y) Y)<|Ra Y<|Ra Y<|Ra Y<|Za<|K5 1 4 5 6 7 Y<|QH [some ⟨3, List.map R3 l⟩, some ⟨44, [(List.map C42 y.1.toList)]⟩, some ⟨60, [[.int .i64 y2.1.Slots, .int .i64 y2.1.Limit, .sl 29 (List.map R29 y2.1.Sectors), .sl 3 (List.map R3 y2.1.Wear), .sl 4 (List.map R4 y2.1.Bad)]]⟩, some ⟨80, [[.own 6 y4.2.2.2.bank.memories.length, .own 7 y4.2.2.2.bank.spots.length, .int .i64 y4.2.2.2.copies, .bool y4.2.2.2.frozen, .bool y4.2.2.2.stopped, .int .i64 y4.2.2.2.last, .bool y4.2.2.2.some_]]⟩, none, none, some ⟨60, List.map O60 y4.2.2.2.bank.memories⟩, some ⟨83, List.map R83 y4.2.2.2.bank.spots⟩] Y<|Tr<|Rm Y<|bE h fun y5 h_y5 h=>Rx Y (ZC [3, 6, 7] (ZbW h_y5) (.cons (ov Y) (.ptr _ _ _ Y) .nil) (.cons Y (ro1 (by exact tZ_80.symm)<|rlc (.own _ Y)<|rlc (.own _ Y)<|rlc (.dat Y)<|rlc (.dat Y)<|rlc (.dat Y)<|rlc (.dat Y)<|rlc (.dat Y) rln)<|.cons Y (roO Q9)<|.cons Y (roM D83) .nil) Y (.keep Y Y<|.keep Y Y<|.keep Y Y<|.lent 0 (.inl Y) Y (ro1 (by exact tZ_80.symm)<|rlc (.dat Y)<|rlc (.own _<|.inr ⟨Nat.le_of_ble_eq_true Y, Y⟩)<|rlc (.dat Y)<|rlc (.dat Y)<|rlc (.dat Y)<|rlc (.dat Y)<|rlc (.dat Y) rln)<|.none<|.none<|.none<|.none<|.lent 3 (.inr ⟨Nat.le_of_ble_eq_true Y, Y⟩) Y (roM D83) .nil) Y Y<|.dat Y)<|bE h fun y6 h_y6 h=>Rq Y (Zq (Zgr h_y6)<|.cons (ov Y) (.b Y) .nil)<|Rm Y<|Rq Y (Zn (ov Y) Y)<|Rq Y (Zn (ov Y) Y)<|Ra Y<|Ra Y<|Za<|Zj<|K6 1 4 6 7 8 9 Y<|Qn (cw := md0) (by kernel_rfl)<|D1 0 Zc Y<|D2 1 Zbt Y<|D1 2 Zc Y<|Dq 3 Y (.guarded ((decide (y4.1 = 1)) == true) Y Y Y Y fun h => Zc<|ov Y)<|Dq 4 Y (ZbQ (ov Y) fun hp=>ow Y<|gT hp)<|D1 5 Zc Y<|Dq 6 Y (.guarded (((decide (y4.1 = 1)) && y4.2.1) == true) Y Y Y Y fun h => Zc<|ov Y)<|Dq 7 Y (.guarded (((decide (y4.1 = 1)) && y4.2.1) == true) Y Y Y Y fun h => Zbt (ow Y h)<|ov Y)<|Dq 8 Y (ZbQ (ov Y) fun hp=>ow Y<|gT hp)<|D1 9 Zc Y<|Dq 10 Y (.guarded ((((decide (y4.1 = 1)) && y4.2.1) && (decide (y4.2.2.1 = 0))) == true) Y Y Y Y fun h => Zc<|ov Y)<|Dq 11 Y (.guarded ((((decide (y4.1 = 1)) && y4.2.1) && (decide (y4.2.2.1 = 0))) == true) Y Y Y Y fun h => Zbt (ow Y h)<|ov Y)<|Dq 12 Y (ZbQ (ov Y) fun hp=>ow Y<|gT hp)<|D1 13 Zc Y<|Dq 14 Y (.guarded (((((decide (y4.1 = 1)) && y4.2.1) && (decide (y4.2.2.1 = 0))) && (decide (y6.2 = 0))) == true) Y Y Y Y fun h => Zc<|ov Y)<|Dq 15 Y (.guarded (((((decide (y4.1 = 1)) && y4.2.1) && (decide (y4.2.2.1 = 0))) && (decide (y6.2 = 0))) == true) Y Y Y Y fun h => ZhX (QR (ow Y h) tZ_44) Zj4<|ZeP _ _)<|Dq 16 Y (.guarded (((((decide (y4.1 = 1)) && y4.2.1) && (decide (y4.2.2.1 = 0))) && (decide (y6.2 = 0))) == true) Y Y Y Y fun h => Zbt (ow Y h)<|ov Y)<|Dq 17 Y (ZbQ (ov Y) fun hp=>ow Y<|gT hp)<|D1 18 Zc Y<|Dq 19 Y (.guarded ((((((decide (y4.1 = 1)) && y4.2.1) && (decide (y4.2.2.1 = 0))) && (decide (y6.2 = 0))) && (decide ((y6.1.length : Int) = 1))) == true) Y Y Y Y fun h => Zc<|ov Y)<|bE h fun x h_x h=>Dq 20 Y (.guarded ((((((decide (y4.1 = 1)) && y4.2.1) && (decide (y4.2.2.1 = 0))) && (decide (y6.2 = 0))) && (decide ((y6.1.length : Int) = 1))) == true) Y Y Y Y fun h => Z5 (ow Y h) (ov Y) Zj4<|gdT h_x h)<|Dq 21 Y (.guarded ((((((decide (y4.1 = 1)) && y4.2.1) && (decide (y4.2.2.1 = 0))) && (decide (y6.2 = 0))) && (decide ((y6.1.length : Int) = 1))) == true) Y Y Y Y fun h => QU (ow Y h) XG (Qr<|Zr arL) arL)<|Dq 22 Y (.guarded ((((((decide (y4.1 = 1)) && y4.2.1) && (decide (y4.2.2.1 = 0))) && (decide (y6.2 = 0))) && (decide ((y6.1.length : Int) = 1))) == true) Y Y Y Y fun h => Qj (ov Y) Y Y Y XG (Qr<|Zr arL) arL (hns := (nsM fun _ => Y)))<|Dq 23 Y (.guarded ((((((decide (y4.1 = 1)) && y4.2.1) && (decide (y4.2.2.1 = 0))) && (decide (y6.2 = 0))) && (decide ((y6.1.length : Int) = 1))) == true) Y Y Y Y fun h => ZkN Zln (ow Y h) (ow Y h) (.aggB<|arD fun _ => Y) (.aggB<|arD fun _ => Y) (fkV fun _ => Y) (fkV fun _ => Y)<|eqV fun _ _ => Y)<|Dq 24 Y (ZbQ (ov Y) fun hp=>ow Y<|gT hp)<|D1 25 Qb Y<|Dd<|?_
    obtain rfl := rt h
    exact Zp (ZK Y (.one<|rb Y))
theorem Zfp {s : List Int} {at_ : Int} {data : List Int} {power : Int} {r : Int × Bool × Int × (List Int)} (h : X2 s at_ data power = some r) :
 GSpec Tryd.prog gl0 11 [.own 0 s.length, .int .i64 at_, .sl 5 (List.map R5 data), .int .i64 power] [some ⟨5, List.map R5 s⟩] (.tuple [.int .i64 r.1, .bool r.2.1, .int .i64 r.2.2.1]) [some ⟨5, List.map R5 r.2.2.2⟩] := by
 unfold X2 at h
 replace h := Qa h
 refine Qt (by kernel_rfl) Tryd.func11 Y Y<|?_
 intro w0 A W φ0
 refine Tr<|Ra Y<|Ra Y<|Ra Y<|Za<|Zj<|K4 0 1 2 3 Y<|Tr<|Rm Y<|R2 ZX Y<|Rm Y<|Rq Y (.guarded ((decide (at_ < 0)) == false) Y Y Y Y fun h => Zc<|ov Y)<|bE h fun y h_y h=>Rq Y (.guarded ((decide (at_ < 0)) == false) Y Y Y Y fun h => Zq (ZZ<|gdT h_y h)<|.cons (ow Y h) (.b Y)<|.cons (ov Y) (.b Y)<|.cons (ov Y) (.b Y) .nil)<|Rq Y (.guarded ((decide (at_ < 0)) == false) Y Y Y Y fun h => Ji<|ow Y h)<|Rq Y (Zev (ov Y) fun hp=>ow Y<|gF hp)<|Za<|K5 0 1 2 3 19 Y<|If h Y (fun h=>?_) fun h=>?_
 ·
  refine K0<|Tr<|Ra Y<|Ra Y<|Ra Y<|Za<|?_
  obtain rfl := rt h
  exact Zp<|JJ [some 0] Y (.cons (.tmp Y)<|.cons (.tmp Y)<|.cons (.tmp Y) .nil) (.cons Y (roM D5) .nil) Y Y<|Xc<|rlc (.dat Y)<|rlc (.dat Y)<|rlc (.dat Y) rln
 ·
  refine Zl<|Zj<|K4 0 1 2 3 Y<|Tr<|Rm Y<|Rm Y<|Rq Y (Zc8 (ov Y) Y Y Qk)<|Rm Y<|Rl tZ_5 Qk Y<|R2 Zgh Y<|R2 Zcm Y<|Za<|K5 0 1 2 3 26 Y<|If h Y (fun h=>?_) fun h=>?_
  ·
   refine K0<|Tr<|Ra Y<|Ra Y<|Ra Y<|Za<|?_
   obtain rfl := rt h
   exact Zp<|JJ [some 0] Y (.cons (.tmp Y)<|.cons (.tmp Y)<|.cons (.tmp Y) .nil) (.cons Y (roM D5) .nil) Y Y<|Xc<|rlc (.dat Y)<|rlc (.dat Y)<|rlc (.dat Y) rln
  ·
   refine Zl<|K4 0 1 2 3 Y<|Tr<|Rm Y<|Rm Y<|Rm Y<|Rm Y<|bE h fun y2 h_y2 h=>Rx Y (ZC [0] (Za9 h_y2) (.cons (ov Y) (.own _ Y)<|.cons (ov Y) (.dat Y)<|.cons (ov Y) (.dat Y)<|.cons (ov Y) (.dat Y) .nil) (.cons Y (roM D5) .nil) Y (.lent 0 (.inl Y) Y (roM D5) .nil) Y Y<|Xc<|rld Y)<|Rm Y<|Rq Y (Zn (ov Y) Y)<|Rq Y (Zn (ov Y) Y)<|Ra Y<|Ra Y<|Za<|K2 11 12 Y<|Tr<|Rm Y<|Rm Y<|Ra Y<|Ra Y<|Ra Y<|Za<|?_
   obtain rfl := rt h
   exact Zp<|JJ [some 0] Y (.cons (.tmp Y)<|.cons (.tmp Y)<|.cons (.tmp Y) .nil) (.cons Y (roM D5) .nil) Y Y<|Xc<|rlc (.dat Y)<|rlc (.dat Y)<|rlc (.dat Y) rln
theorem ZcN {s : List Int} {at_ : Int} {data : List Int} {power : Int} {r : Bool} (h : Q7 s at_ data power = some r) :
 CSpec Tryd.prog gl0 4 [.sl 5 (List.map R5 s), .int .i64 at_, .sl 5 (List.map R5 data), .int .i64 power] (.bool r) := by
 unfold Q7 at h
 replace h := Qa h
 refine So Tryd.func4 Y fun w0 A=>Tr<|Ra Y<|Za<|K4 0 1 2 3 Y<|Tr<|Rm Y<|bE h fun y h_y h=>Rx Y (ZC [] (Zf0 h_y) (.cons (ov Y) (.dat Y) .nil) .nil Y (.lent 0 (.inr ⟨Nat.le_of_ble_eq_true Y, Y⟩) Y (roM D5) .nil) Y Y<|.own _<|.inr ⟨Nat.le_of_ble_eq_true Y, Y⟩)<|Ra Y<|Za<|K5 0 1 2 3 9 Y<|Tr<|Rm Y<|Rm Y<|Rm Y<|Rm Y<|bE h fun y2 h_y2 h=>Rx Y (ZC [0] (Zfp h_y2) (.cons (ov Y) (.own _ Y)<|.cons (ov Y) (.dat Y)<|.cons (ov Y) (.dat Y)<|.cons (ov Y) (.dat Y) .nil) (.cons Y (roM D5) .nil) Y (.lent 0 (.inl Y) Y (roM D5) .nil) Y Y<|Xc<|rld Y)<|Rm Y<|Rq Y (Zn (ov Y) Y)<|Rq Y (Zn (ov Y) Y)<|Rq Y (Zn (ov Y) Y)<|Ra Y<|Ra Y<|Ra Y<|Za<|K4 0 3 9 12 Y<|Tr<|Ra Y<|Za<|J1 (fun j => (.inr j)) (fun n=>⟨[(3, .int .i64 power), (12, .int .i64 y2.2.2.1), (13, .int .i64 n)], []⟩) h (fun h=>?_) fun n h=>?_
 ·
  refine Tr<|Rm Y<|Rl tZ_5 Qk Y<|Rm Y<|Za<|Zi<|?_
  obtain ⟨r1, hl1, ho1⟩ := Q2 h
  refine L2 (fun n2 i=>⟨[(0, .sl 5 (List.map R5 s)), (3, .int .i64 power), (9, .own 0 y2.2.2.2.length), (12, .int .i64 y2.2.2.1), (13, .int .i64 n2), (27, .int .i64 (s.length : Int)), (28, .int .i64 i)], [some ⟨5, List.map R5 y2.2.2.2⟩]⟩) hl1 (ES [some 0]<|sd 0 Y Y<|sd 3 Y Y<|sr 9 Y (Zen (Eq.symm<|ZfG h_y2) Y)<|sd 12 Y Y<|sd 13 Y Y<|sd 27 Y Y<|sd 28 Y Y sn) fun n1 n2 i h=>?_
  unfold ZL at h
  refine Tr<|R2 ZX Y<|Za<|Zj<|If h Y (fun h=>?_) fun h=>?_
  ·
   refine Zl<|Zj<|Zi<|K7 0 3 9 12 13 27 28 Y<|Tr<|Rm Y<|Ra Y<|Za<|Zj<|Zj<|K8 0 3 9 12 13 14 27 28 Y<|Qn (cw := md0) (by kernel_rfl)<|D1 0 Zc Y<|D1 1 Zc Y<|bE h fun x h_x h=>Dq 2 Y (Xd (ov Y) (ov Y) Qk Y Y h_x)<|Dq 3 Y (QY (ov Y) Y Y h_x tS5 Y)<|D1 4 Zc Y<|D1 5 Zc Y<|bE h fun x2 h_x2 h=>Dq 6 Y (Z5 (ov Y) (ov Y) Qk h_x2)<|Dq 7 Y (Zd (ov Y) tS5 Y)<|D2 8 Zjd Y<|D2 9 XI Y<|Dd<|K9 0 3 9 12 13 14 27 28 40 Y<|If h Y (fun h=>?_) fun h=>?_
   ·
    refine K0<|Tr<|Ra Y<|Za<|?_
    replace h := lx h ▸ ho1
    obtain rfl := rt h
    exact Zp (ZK Y (.one<|rb Y))
   ·
    refine Zl<|Zj<|K8 0 3 9 12 13 14 27 28 Y<|Qn (cw := md0) (by kernel_rfl)<|D1 0 Zc Y<|D1 1 Zc Y<|bE h fun x3 h_x3 h=>Dq 2 Y (Xd (ov Y) (ov Y) Qk Y Y h_x3)<|Dq 3 Y (QY (ov Y) Y Y h_x3 tS5 Y)<|D1 4 Zc Y<|D1 5 Zc Y<|bE h fun x4 h_x4 h=>Dq 6 Y (Z5 (ov Y) (ov Y) Qk h_x4)<|Dq 7 Y (Zd (ov Y) tS5 Y)<|D2 8 XI Y<|Dd<|K8 0 3 9 12 13 27 28 49 Y<|If h Y (fun h=>?_) fun h=>?_
    ·
     exact K7 0 3 9 12 13 27 28 Y<|Zu<|Rm Y<|R2 ZN Y<|Ra Y<|Za<|K7 0 3 9 12 13 27 28 Y<|Zu<|R2 ZN Y<|Rm Y<|Za<|⟨_, h, ES [some 0]⟩
    ·
     exact Zl<|K7 0 3 9 12 13 27 28 Y<|Zu<|R2 ZN Y<|Rm Y<|Za<|⟨_, h, ES [some 0]⟩
  ·
   refine ZI<|?_
   replace h := lx h ▸ ho1
   exact ⟨_, h, ES []⟩
 ·
  replace h := elr h
  replace h := t1i h
  refine Tr<|Rm Y<|R2 XI Y<|Rm Y<|Rq Y (.guarded ((!decide (y2.2.2.1 = 0)) == true) Y Y Y Y fun h => Zc<|ov Y)<|Rq Y (.guarded ((!decide (y2.2.2.1 = 0)) == true) Y Y Y Y fun h => Zbt (ow Y h)<|ov Y)<|Rq Y (ZbQ (ov Y) fun hp=>ow Y<|gT hp)<|Rm Y<|Rq Y (.guarded (((!decide (y2.2.2.1 = 0)) && (decide (n = 0))) == false) Y Y Y Y fun h => Zc<|ov Y)<|Rq Y (.guarded (((!decide (y2.2.2.1 = 0)) && (decide (n = 0))) == false) Y Y Y Y fun h => Zbt (ow Y h)<|ov Y)<|Rq Y (.guarded (((!decide (y2.2.2.1 = 0)) && (decide (n = 0))) == false) Y Y Y Y fun h => Zc<|ow Y h)<|Rq Y (.guarded2 ((((!decide (y2.2.2.1 = 0)) && (decide (n = 0))) == false) && ((decide (y2.2.2.1 = 0)) == true)) Y Y Y Y fun h => Zc<|ov Y)<|Rq Y (.guarded2 ((((!decide (y2.2.2.1 = 0)) && (decide (n = 0))) == false) && ((decide (y2.2.2.1 = 0)) == true)) Y Y Y Y fun h => Zc<|ov Y)<|Rq Y (.guarded2 ((((!decide (y2.2.2.1 = 0)) && (decide (n = 0))) == false) && ((decide (y2.2.2.1 = 0)) == true)) Y Y Y Y fun h => Zil (ow Y h) (ov Y) Y)<|Rq Y (.guarded2 ((((!decide (y2.2.2.1 = 0)) && (decide (n = 0))) == false) && ((decide (y2.2.2.1 = 0)) == true)) Y Y Y Y fun h => ZgJ (ow Y h)<|ow Y h)<|Rq Y (.guarded (((!decide (y2.2.2.1 = 0)) && (decide (n = 0))) == false) Y Y Y Y fun h => ZbQ (ow Y h) fun hp=>ow Y<|gA h<|gT hp)<|Rq Y (Zev (ov Y) fun hp=>ow Y<|gF hp)<|Rm Y<|bE h fun y3 h_y3 h=>Rq Y (.guarded ((((!decide (y2.2.2.1 = 0)) && (decide (n = 0))) || ((decide (y2.2.2.1 = 0)) && (decide (n ≤ (i64 (power + 1)))))) == true) Y Y Y Y fun h => Zq (Zhv<|gdT h_y3 h) .nil)<|Rq Y (ZbQ (ov Y) fun hp=>ow Y<|gT hp)<|Ra Y<|Za<|?_
  obtain rfl := rt h
  exact Zp (ZK Y (.one<|rb Y))
end Go.Proofs.YtnlmjeleocelgaaDoor
