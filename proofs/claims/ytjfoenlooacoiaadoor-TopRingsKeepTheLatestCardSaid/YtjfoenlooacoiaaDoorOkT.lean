/- A text of the proof: a verified executor of the program form, or the contracts of the functions that the law reaches. -/
import Derived.Test.YtjfoenlooacoiaaDoorOkTc
set_option linter.all false
namespace Go.Proofs.YtjfoenlooacoiaaDoor
open Go Go.Vx
set_option maxRecDepth 10000
set_option maxHeartbeats 1000000
set_option linter.unusedVariables false
theorem Zf4 {l : List api_Memory} {r : (List api_Memory)} (h : XU l = some r) :
 CSpec Tryd.prog gl0 31 [.sl 43 (List.map R43 l)] (.sl 43 (List.map R43 r)) := by
 unfold XU at h
 replace h := Qr h
 refine So Tryd.func31 Y fun w0 A=>Tr<|Ra Y<|Za<|K1 0 Y<|Tr<|Ra Y<|Za<|I1 (fun out=>⟨[(3, .own 0 out.length)], [some ⟨43, List.map O43 out⟩]⟩) h (fun h=>?_) fun out h=>?_
 ·
  refine Tr<|Rm Y<|Rl tZ_43 JV Y<|Rm Y<|Za<|Ze<|?_
  obtain ⟨r1, hl1, ho1⟩ := QH h
  refine L2 (fun out2 i=>⟨[(3, .own 0 out2.length), (6, .sl 43 (List.map R43 l)), (7, .int .i64 (l.length : Int)), (8, .int .i64 i)], [some ⟨43, List.map O43 out2⟩]⟩) hl1 (ES [none]) fun n1 out2 i h=>?_
  unfold XN at h
  refine Tr<|R2 ZD Y<|Za<|Zg<|If h Y (fun h=>?_) fun h=>?_
  ·
   exact Zf<|Zg<|Ze<|K4 3 6 7 8 Y<|Tr<|bE h fun x h_x h=>Rq Y (ZQ (ov Y) (ov Y) JV h_x)<|Rq Y (Z9 (ov Y) J7 Y Y)<|Rx Y (Qk (row := [_, _, _, _, _]) 1 Y Zgs Y tZ_43)<|Rx Y (Zr (ov Y) (ov Y) (ZI J7 Y) Y Y Y (Nat.le_of_ble_eq_true Y) (Zc Y) Y)<|Za<|K5 3 5 6 7 8 Y<|QU [some ⟨43, List.map O43 out2⟩, some ⟨43, [[.int .i64 x.Slots, .int .i64 x.Limit, .sl 47 (List.map R47 x.Sectors), .sl 3 (List.map R3 x.Wear), .sl 4 (List.map R4 x.Bad)]]⟩] Y<|Zk<|Rm Y<|Rq Y (Q9 (ov Y) Y Y Y J7 Y Y)<|bE h fun y h_y h=>Rx Y (ZY [] (ZbJ h_y) (.cons (ov Y) (Zdz<|rld Y) .nil) .nil Y (.keep Y Y<|.keep Y Y<|.lent 0 (.inr ⟨Nat.le_of_ble_eq_true Y, Y⟩) Y (roO Zfn)<|.lent 1 (.inr ⟨Nat.le_of_ble_eq_true Y, Y⟩) Y (roM D3)<|.lent 2 (.inr ⟨Nat.le_of_ble_eq_true Y, Y⟩) Y (roM D4) .nil) Y Y<|Zdz<|rlc (.dat Y)<|rlc (.dat Y)<|rlc (.own _<|.inr ⟨Nat.le_of_ble_eq_true Y, Y⟩)<|rlc (.own _<|.inr ⟨Nat.le_of_ble_eq_true Y, Y⟩)<|rlc (.own _<|.inr ⟨Nat.le_of_ble_eq_true Y, Y⟩) rln)<|Rx Y (Zi1 (r := 5) Y JV (.cons (cva<|ov Y) Y .nil) Y Y)<|bE h fun l2 h_l2 h=>Rx Y (ZfI (f := O43) (ov Y) (Zh6 (o := ⟨43, [[.int .i64 y.Slots, .int .i64 y.Limit, .own 2 y.Sectors.length, .own 3 y.Wear.length, .own 4 y.Bad.length]]⟩) (ov Y) Y Y tZ_43) JV Y Y (Zc Y) Y h_l2)<|Ra Y<|ZdQ [some ⟨43, List.set (List.map O43 l2) out2.length [.int .i64 y.Slots, .int .i64 y.Limit, .own 2 y.Sectors.length, .own 3 y.Wear.length, .own 4 y.Bad.length]⟩, some ⟨43, [[.int .i64 x.Slots, .int .i64 x.Limit, .sl 47 (List.map R47 x.Sectors), .sl 3 (List.map R3 x.Wear), .sl 4 (List.map R4 x.Bad)]]⟩, some ⟨47, List.map O47 y.Sectors⟩, some ⟨3, List.map R3 y.Wear⟩, some ⟨4, List.map R4 y.Bad⟩, some ⟨43, [[.int .i64 y.Slots, .int .i64 y.Limit, .own 2 y.Sectors.length, .own 3 y.Wear.length, .own 4 y.Bad.length]]⟩] Y<|QR (Ent.absorbH (r := 0) (j := 2) (q := 2) Y (Zau h_l2) Y Y (List.length_map ..) Y)<|QR (Ent.absorbH (r := 0) (j := 3) (q := 3) Y (Zau h_l2) Y Y (List.length_map ..) Y)<|QR (Ent.absorbH (r := 0) (j := 4) (q := 4) Y (Zau h_l2) Y Y (List.length_map ..) Y)<|QR (Ent.closeS (r := 0) Y (Zau h_l2) Y)<|Za<|K4 3 6 7 8 Y<|QU [some ⟨43, List.map O43 l2⟩, some ⟨43, [[.int .i64 x.Slots, .int .i64 x.Limit, .sl 47 (List.map R47 x.Sectors), .sl 3 (List.map R3 x.Wear), .sl 4 (List.map R4 x.Bad)]]⟩, none, none, none, some ⟨43, [[.int .i64 y.Slots, .int .i64 y.Limit, .own 2 y.Sectors.length, .own 3 y.Wear.length, .own 4 y.Bad.length]]⟩] Y<|Zk<|R2 ZP Y<|Rm Y<|Za<|⟨_, h, ES [some 0] (hhp := .cons Y (roO Xj) .nil)⟩
  ·
   refine ZA<|?_
   replace h := lx h ▸ ho1
   exact ⟨_, h, ES [some 0] (hhp := .cons Y (roO Xj) .nil)⟩
 ·
  refine Tr<|Rm Y<|Ra Y<|Za<|?_
  obtain rfl := rt h
  exact Zi (ZN Y (.one<|.tmp Y<|View.ownO Y Y Xj (fun x=>(D43 x).1) ZiS))
theorem ZbX {r_ : ring_Recorder} {r : (List api_Memory)} (h : Xm r_ = some r) :
 GSpec Tryd.prog gl0 18 [.ptr 0 1 0 0] [some ⟨80, [[.own 1 r_.bank.memories.length, .own 2 r_.bank.spots.length, .int .i64 r_.copies, .bool r_.frozen, .bool r_.stopped, .int .i64 r_.last, .bool r_.some_]]⟩, some ⟨43, List.map O43 r_.bank.memories⟩, some ⟨83, List.map R83 r_.bank.spots⟩] (.sl 43 (List.map R43 r)) [some ⟨80, [[.sl 43 (List.map R43 r_.bank.memories), .own 3 r_.bank.spots.length, .int .i64 r_.copies, .bool r_.frozen, .bool r_.stopped, .int .i64 r_.last, .bool r_.some_]]⟩, none, none, some ⟨83, List.map R83 r_.bank.spots⟩] := by
 unfold Xm at h
 replace h := Qr h
 refine Qz (by kernel_rfl) Tryd.func18 Y Y<|?_
 intro w0 A W φ0
 refine Zex (Ent.sel [some 0, some 1, some 2, some 1, some 2] (sr 0 Y (.ptr (r' := 0) _ _ _ Y) sn) (.cons Y (ro1 (by exact tZ_80.symm)<|rlc (.own (r' := 3) _ Y)<|rlc (.own (r' := 4) _ Y)<|rlc (.dat Y)<|rlc (.dat Y)<|rlc (.dat Y)<|rlc (.dat Y)<|rlc (.dat Y) rln)<|.dead<|.dead<|.cons Y (roO Xj)<|.cons Y (roM D83) .nil) Y Y)<|QU [some ⟨80, [[.own 3 r_.bank.memories.length, .own 4 r_.bank.spots.length, .int .i64 r_.copies, .bool r_.frozen, .bool r_.stopped, .int .i64 r_.last, .bool r_.some_]]⟩, none, none, some ⟨43, List.map O43 r_.bank.memories⟩, some ⟨83, List.map R83 r_.bank.spots⟩] Y<|Tr<|Ra Y<|Za<|Tr<|Rm Y<|Rq Y (Zp (ov Y) Y Y)<|Rq Y (Zo (ov Y) Y Y ZdP)<|Rq Y (Zo (ov Y) Y Y Zdf)<|Rq Y (ZM (ov Y) Y Y Y ZhL Y)<|bE h fun y h_y h=>QR (Ent.meltO (r := 3) Y Xj (fun x=>(D43 x).1) ZiS)<|QR (Ent.sel [some 0, some 1, some 2, none, some 4] (sr 0 Y (.ptr (r' := 0) _ _ _ Y)<|sd 2 Y Y<|sr 3 Y (.ptr (r' := 0) _ _ _ Y)<|sr 4 Y (.ptr (r' := 0) _ _ _ Y)<|sr 5 Y (.ptr (r' := 0) _ _ _ Y)<|sr 6 Y (.ptr (r' := 0) _ _ _ Y)<|sr 7 Y (ZmD Y Y Y D43) sn) (.cons Y (ro1 (by exact tZ_80.symm)<|rlc (ZmD Y Y Y D43)<|rlc (.own (r' := 4) _ Y)<|rlc (.dat Y)<|rlc (.dat Y)<|rlc (.dat Y)<|rlc (.dat Y)<|rlc (.dat Y) rln)<|.dead<|.dead<|.row 43<|.cons Y (roM D83) .nil) Y Y)<|Rq Y (Zq (Zf4 h_y)<|.cons (ov Y) (.b Y) .nil)<|Ra Y<|Za<|?_
 obtain rfl := rt h
 exact Zi<|ZaU [some 0, some 1, some 2, some 4] Y (.cons (.tmp Y) .nil) (.cons Y (ro1 (by exact tZ_80.symm)<|rlc (.dat Y)<|rlc (.own _ Y)<|rlc (.dat Y)<|rlc (.dat Y)<|rlc (.dat Y)<|rlc (.dat Y)<|rlc (.dat Y) rln)<|.dead<|.dead<|.cons Y (roM D83) .nil) Y Y<|.dat Y
theorem Zfy {l : List api_Memory} {copies : Int} {frames : List (Vector Int 64)} {power : Int} {r : (List (Vector Int 64)) × (List api_Memory) × Bool} (h : Zap l copies frames power = some r) :
 CSpec Tryd.prog gl0 7 [.sl 43 (List.map R43 l), .int .i64 copies, .sl 28 (List.map R28 frames), .int .i64 power] (.tuple [.sl 28 (List.map R28 r.1), .sl 43 (List.map R43 r.2.1), .bool r.2.2]) := by
 unfold Zap at h
 replace h := Qr h
 refine So Tryd.func7 Y fun w0 A=>Tr<|Ra Y<|Ra Y<|Ra Y<|Za<|K4 0 1 2 3 Y<|Tr<|Rm Y<|Rm Y<|bE h fun y h_y h=>?_
 rcases y with y | y
 ·
  replace h := ell h
  refine Rx Y (ZY [] (Zek h_y) (.cons (ov Y) (.dat Y)<|.cons (ov Y) (.dat Y) .nil) .nil Y .nil Y Y<|QV<|rlc (.dat Y)<|rlc (.dat Y) rln)<|Rm Y<|Rq Y (Zj (ov Y) Y)<|Rq Y (Zj (ov Y) Y)<|Ra Y<|Ra Y<|Za<|Zg<|K4 2 3 11 12 Y<|Tr<|Rm Y<|R2 Q4 Y<|Za<|K4 2 3 11 26 Y<|If h Y (fun h=>?_) fun h=>?_
  ·
   refine K0<|Tr<|Ra Y<|Ra Y<|Ra Y<|Za<|?_
   obtain rfl := rt h
   exact Zi (ZN Y (.three (.tmp Y<|View.nils 28) (.tmp Y<|View.nils 43)<|rb Y))
  ·
   refine Zf<|K3 2 3 11 Y<|Tr<|Ra Y<|Za<|I0 ⟨[(11, .lit (.pointer none)), (13, .nils)], []⟩ h (fun h=>?_) fun h=>?_
   ·
    refine Tr<|Rm Y<|Rl tZ_28 Zfi Y<|Rm Y<|Za<|Ze<|?_
    obtain ⟨r1, hl1, ho1⟩ := QH h
    refine L0 ⟨[(3, .int .i64 power), (11, .lit (.pointer none)), (13, .nils), (27, .sl 28 (List.map R28 frames)), (28, .int .i64 (frames.length : Int)), (29, .int .i64 0)], []⟩ hl1 (ES []) fun n1 h=>?_
    unfold Zc1 at h
    refine Tr<|R2 ZD Y<|Za<|Zg<|If h Y (fun h=>?_) fun h=>?_
    ·
     exact Zf<|Zg<|Ze<|K6 3 11 13 27 28 29 Y<|Tr<|bE h fun x h_x h=>Rq Y (ZQ (ov Y) (ov Y) Zfi h_x)<|Rq Y (Z9 (ov Y) JG (QS<|Zt arL) arL)<|Rx Y (Qk (row := (List.map C26 (Vector.replicate 64 0).toList)) 0 Y Ze1 Y tZ_28)<|Rx Y (Zr (ov Y) (ov Y) (ZI JG arL) Y Y Y (ZaL (Zt arL) arL) (Zc<|arC fun _ => Y)<|Jl<|Eq.trans arL<|Eq.symm arL)<|Za<|(Zjt h).elim
    ·
     refine ZA<|?_
     replace h := lx h ▸ ho1
     exact ⟨(), h, ES []⟩
   ·
    exact (Zjt h).elim
 ·
  replace h := elr h
  refine Rx Y (ZY [] (Zeo h_y) (.cons (ov Y) (.dat Y)<|.cons (ov Y) (.dat Y) .nil) .nil Y (.lent 0 (.inr ⟨Nat.le_of_ble_eq_true Y, Y⟩) Y (ro1 (by exact tZ_80.symm)<|rlc (.own _<|.inr ⟨Nat.le_of_ble_eq_true Y, Y⟩)<|rlc (.own _<|.inr ⟨Nat.le_of_ble_eq_true Y, Y⟩)<|rlc (.dat Y)<|rlc (.dat Y)<|rlc (.dat Y)<|rlc (.dat Y)<|rlc (.dat Y) rln)<|.lent 1 (.inr ⟨Nat.le_of_ble_eq_true Y, Y⟩) Y (roO Xj)<|.lent 2 (.inr ⟨Nat.le_of_ble_eq_true Y, Y⟩) Y (roM D83) .nil) Y Y<|QV<|rlc (.ptr _ _ _<|.inr ⟨Nat.le_of_ble_eq_true Y, Y⟩)<|rlc (.dat Y) rln)<|Rm Y<|Rq Y (Zj (ov Y) Y)<|Rq Y (Zj (ov Y) Y)<|Ra Y<|Ra Y<|Za<|Zg<|K4 2 3 11 12 Y<|QU [some ⟨80, [[.own 1 y.1.bank.memories.length, .own 2 y.1.bank.spots.length, .int .i64 y.1.copies, .bool y.1.frozen, .bool y.1.stopped, .int .i64 y.1.last, .bool y.1.some_]]⟩, some ⟨43, List.map O43 y.1.bank.memories⟩, some ⟨83, List.map R83 y.1.bank.spots⟩] Y<|Tr<|Rm Y<|R2 Q4 Y<|Za<|K4 2 3 11 26 Y<|If h Y (fun h=>?_) fun h=>?_
  ·
   refine K0<|Tr<|Ra Y<|Ra Y<|Ra Y<|Za<|?_
   obtain rfl := rt h
   exact Zi (ZN Y (.three (.tmp Y<|View.nils 28) (.tmp Y<|View.nils 43)<|rb Y))
  ·
   refine Zf<|K3 2 3 11 Y<|Tr<|Ra Y<|Za<|I8 (fun memories spots copies2 frozen stopped last some_ done=>⟨[(11, .ptr 0 1 0 0), (13, .own 3 done.length)], [some ⟨80, [[.own 1 memories.length, .own 2 spots.length, .int .i64 copies2, .bool frozen, .bool stopped, .int .i64 last, .bool some_]]⟩, some ⟨43, List.map O43 memories⟩, some ⟨83, List.map R83 spots⟩, some ⟨28, List.map R28 done⟩]⟩) h (fun h=>?_) fun memories spots copies2 frozen stopped last some_ done h=>?_
   ·
    refine Tr<|Rm Y<|Rl tZ_28 Zfi Y<|Rm Y<|Za<|Ze<|?_
    obtain ⟨r2, hl2, ho2⟩ := QH h
    refine Zd9 _ (t10 fun power2 memories2 spots2 copies3 frozen2 stopped2 last2 some_2 done2 i => ⟨[(3, .int .i64 power2), (11, .ptr 0 1 0 0), (13, .own 3 done2.length), (27, .sl 28 (List.map R28 frames)), (28, .int .i64 (frames.length : Int)), (29, .int .i64 i)], [some ⟨80, [[.own 1 memories2.length, .own 2 spots2.length, .int .i64 copies3, .bool frozen2, .bool stopped2, .int .i64 last2, .bool some_2]]⟩, some ⟨43, List.map O43 memories2⟩, some ⟨83, List.map R83 spots2⟩, some ⟨28, List.map R28 done2⟩]⟩) _ hl2 (Ent.sel [some 0, some 1, some 2, none] (sd 3 Y Y<|sr 11 Y (.ptr _ _ _ Y)<|sr 13 Y (.row Y)<|sd 27 Y Y<|sd 28 Y Y<|sd 29 Y Y sn) (.cons Y (ro1 (by exact tZ_80.symm)<|rlc (.own _ Y)<|rlc (.own _ Y)<|rlc (.dat Y)<|rlc (.dat Y)<|rlc (.dat Y)<|rlc (.dat Y)<|rlc (.dat Y) rln)<|.cons Y (roO Xj)<|.cons Y (roM D83)<|.row 28 .nil) Y Y) fun n2 s2 h=>?_
    obtain ⟨power2, memories2, spots2, copies3, frozen2, stopped2, last2, some_2, done2, i⟩ := s2
    replace h := Zpr h
    refine Zpp<|?_
    unfold Xr at h
    refine Tr<|R2 ZD Y<|Za<|Zg<|If h Y (fun h=>?_) fun h=>?_
    ·
     refine Zf<|Zg<|Ze<|K6 3 11 13 27 28 29 Y<|Tr<|bE h fun x2 h_x2 h=>Rq Y (ZQ (ov Y) (ov Y) Zfi h_x2)<|Rq Y (Z9 (ov Y) JG (QS<|Zt arL) arL)<|Rx Y (Qk (row := (List.map C26 (Vector.replicate 64 0).toList)) 4 Y Ze1 Y tZ_28)<|Rx Y (Zr (ov Y) (ov Y) (ZI JG arL) Y Y Y (ZaL (Zt arL) arL) (Zc<|arC fun _ => Y)<|Jl<|Eq.trans arL<|Eq.symm arL)<|Za<|K7 3 11 13 15 27 28 29 Y<|QU [some ⟨80, [[.own 1 memories2.length, .own 2 spots2.length, .int .i64 copies3, .bool frozen2, .bool stopped2, .int .i64 last2, .bool some_2]]⟩, some ⟨43, List.map O43 memories2⟩, some ⟨83, List.map R83 spots2⟩, some ⟨28, List.map R28 done2⟩, some ⟨28, [(List.map C26 x2.toList)]⟩] Y<|Tr<|Rm Y<|Rq Y (Q9 (ov Y) Y Y Y JG (QS<|Zt arL) arL (hns := (nsM fun _ => Y)))<|Rm Y<|bE h fun y2 h_y2 h=>Rx Y (ZY [0, 1, 2] (Zcu h_y2) (.cons (ov Y) (.ptr _ _ _ Y)<|.cons (ov Y) (Zdz<|rld<|arD fun _ => Y)<|.cons (ov Y) (.dat Y) .nil) (.cons Y (ro1 (by exact tZ_80.symm)<|rlc (.own _ Y)<|rlc (.own _ Y)<|rlc (.dat Y)<|rlc (.dat Y)<|rlc (.dat Y)<|rlc (.dat Y)<|rlc (.dat Y) rln)<|.cons Y (roO Xj)<|.cons Y (roM D83) .nil) Y (.lent 0 (.inl Y) Y (ro1 (by exact tZ_80.symm)<|rlc (.own _<|.inr ⟨Nat.le_of_ble_eq_true Y, Y⟩)<|rlc (.own _<|.inr ⟨Nat.le_of_ble_eq_true Y, Y⟩)<|rlc (.dat Y)<|rlc (.dat Y)<|rlc (.dat Y)<|rlc (.dat Y)<|rlc (.dat Y) rln)<|.none<|.none<|.keep Y Y<|.keep Y Y<|.lent 3 (.inr ⟨Nat.le_of_ble_eq_true Y, Y⟩) Y (roO Xj)<|.lent 4 (.inr ⟨Nat.le_of_ble_eq_true Y, Y⟩) Y (roM D83) .nil) Y Y<|QV<|rld Y)<|Rm Y<|Rq Y (Zj (ov Y) Y)<|Rq Y (Zj (ov Y) Y)<|Rq Y (Zj (ov Y) Y)<|Ra Y<|Ra Y<|Ra Y<|Za<|Zg<|K9 11 13 15 16 17 18 27 28 29 Y<|QU [some ⟨80, [[.own 5 y2.2.2.2.bank.memories.length, .own 6 y2.2.2.2.bank.spots.length, .int .i64 y2.2.2.2.copies, .bool y2.2.2.2.frozen, .bool y2.2.2.2.stopped, .int .i64 y2.2.2.2.last, .bool y2.2.2.2.some_]]⟩, none, none, some ⟨28, List.map R28 done2⟩, some ⟨28, [(List.map C26 x2.toList)]⟩, some ⟨43, List.map O43 y2.2.2.2.bank.memories⟩, some ⟨83, List.map R83 y2.2.2.2.bank.spots⟩] Y<|Tr<|Rm Y<|R2 Q4 Y<|Za<|K9 11 13 15 16 17 27 28 29 42 Y<|If h Y (fun h=>?_) fun h=>?_
     ·
      refine ZA<|?_
      replace h := lx h ▸ ho2
      exact ⟨_, h, ES [some 0, some 5, some 6, some 3] (hhp := .cons Y (ro1 (by exact tZ_80.symm)<|rlc (.own _ Y)<|rlc (.own _ Y)<|rlc (.dat Y)<|rlc (.dat Y)<|rlc (.dat Y)<|rlc (.dat Y)<|rlc (.dat Y) rln)<|.cons Y (roO Xj)<|.cons Y (roM D83)<|.cons Y (roM D28) .nil)⟩
     ·
      refine Zf<|K8 11 13 15 16 17 27 28 29 Y<|Tr<|Rm Y<|Ra Y<|Za<|Zg<|K8 3 11 13 15 17 27 28 29 Y<|Tr<|Rm Y<|R1 XV Y<|Za<|K8 3 11 13 15 27 28 29 45 Y<|If h Y (fun h=>?_) fun h=>?_
      ·
       refine ZA<|?_
       replace h := lx h ▸ ho2
       exact ⟨_, h, ES [some 0, some 5, some 6, some 3] (hhp := .cons Y (ro1 (by exact tZ_80.symm)<|rlc (.own _ Y)<|rlc (.own _ Y)<|rlc (.dat Y)<|rlc (.dat Y)<|rlc (.dat Y)<|rlc (.dat Y)<|rlc (.dat Y) rln)<|.cons Y (roO Xj)<|.cons Y (roM D83)<|.cons Y (roM D28) .nil)⟩
      ·
       exact Zf<|K7 3 11 13 15 27 28 29 Y<|Zk<|Rm Y<|Rq Y (Q9 (ov Y) Y Y Y JG (QS<|Zt arL) arL (hns := (nsM fun _ => Y)))<|R_q (.sl 28<|List.map R28 ([x2] : List (Vector Int 64))) Y (ZbG Zfi (.cons (cva<|ov Y) arL (pwD<|arD fun _ => Y) .nil) Y Y)<|bE h fun l2 h_l2 h=>Rx Y (QQ (ov Y) (QT (ov Y) tZ_28) Zfi Y Y Y (fun x=>Zc<|E28 x) Y h_l2)<|Ra Y<|Za<|K6 3 11 13 27 28 29 Y<|QU [some ⟨80, [[.own 5 y2.2.2.2.bank.memories.length, .own 6 y2.2.2.2.bank.spots.length, .int .i64 y2.2.2.2.copies, .bool y2.2.2.2.frozen, .bool y2.2.2.2.stopped, .int .i64 y2.2.2.2.last, .bool y2.2.2.2.some_]]⟩, none, none, some ⟨28, List.map R28 l2⟩, some ⟨28, [(List.map C26 x2.toList)]⟩, some ⟨43, List.map O43 y2.2.2.2.bank.memories⟩, some ⟨83, List.map R83 y2.2.2.2.bank.spots⟩] Y<|Zk<|R2 ZP Y<|Rm Y<|Za<|⟨_, h, ES [some 0, some 5, some 6, some 3] (hhp := .cons Y (ro1 (by exact tZ_80.symm)<|rlc (.own _ Y)<|rlc (.own _ Y)<|rlc (.dat Y)<|rlc (.dat Y)<|rlc (.dat Y)<|rlc (.dat Y)<|rlc (.dat Y) rln)<|.cons Y (roO Xj)<|.cons Y (roM D83)<|.cons Y (roM D28) .nil)⟩
    ·
     refine ZA<|?_
     replace h := lx h ▸ ho2
     exact ⟨_, h, ES [some 0, some 1, some 2, some 3] (hhp := .cons Y (ro1 (by exact tZ_80.symm)<|rlc (.own _ Y)<|rlc (.own _ Y)<|rlc (.dat Y)<|rlc (.dat Y)<|rlc (.dat Y)<|rlc (.dat Y)<|rlc (.dat Y) rln)<|.cons Y (roO Xj)<|.cons Y (roM D83)<|.cons Y (roM D28) .nil)⟩
   ·
    refine Tr<|Rm Y<|Rm Y<|bE h fun y3 h_y3 h=>Rx Y (ZY [0, 1, 2] (ZbX h_y3) (.cons (ov Y) (.ptr _ _ _ Y) .nil) (.cons Y (ro1 (by exact tZ_80.symm)<|rlc (.own _ Y)<|rlc (.own _ Y)<|rlc (.dat Y)<|rlc (.dat Y)<|rlc (.dat Y)<|rlc (.dat Y)<|rlc (.dat Y) rln)<|.cons Y (roO Xj)<|.cons Y (roM D83) .nil) Y (.lent 0 (.inl Y) Y (ro1 (by exact tZ_80.symm)<|rlc (.dat Y)<|rlc (.own _<|.inr ⟨Nat.le_of_ble_eq_true Y, Y⟩)<|rlc (.dat Y)<|rlc (.dat Y)<|rlc (.dat Y)<|rlc (.dat Y)<|rlc (.dat Y) rln)<|.none<|.none<|.keep Y Y<|.lent 3 (.inr ⟨Nat.le_of_ble_eq_true Y, Y⟩) Y (roM D83) .nil) Y Y<|.dat Y)<|Ra Y<|Ra Y<|Ra Y<|Za<|?_
    obtain rfl := rt h
    exact Zi (ZN Y (.three (.tmp Y<|View.ownM Y Y D28) (rb Y)<|rb Y))
theorem Zf6 {p : Vector Int 96} {i : Int} {r : Int} (h : Za2 p i = some r) :
 CSpec Tryd.prog gl0 84 [.rp (List.map C5 p.toList) 0, .int .i64 i] (.int .u16 r) := by
 unfold Za2 at h
 replace h := Qr h
 refine So Tryd.func84 Y fun w0 A=>Tr<|Ra Y<|Za<|K2 0 1 Y<|Tr<|Rm Y<|bE h fun q h_q h=>Rq Y (ZhI (ov Y) (ov Y) h_q)<|R2 ZgU Y<|Ra Y<|Za<|Zg<|K3 0 1 5 Y<|Tr<|Rm Y<|bE h fun q2 h_q2 h=>Rq Y (ZeJ (ov Y) (ov Y) h_q2)<|R2 Zbk Y<|Za<|K3 0 5 11 Y<|If h Y (fun h=>?_) fun h=>?_
 ·
  refine Zg<|K2 0 5 Y<|Qj (cw := md0) (by kernel_rfl)<|D1 0 Zb Y<|D1 1 Zb Y<|D1 2 ZC Y<|bE h fun x h_x h=>Dq 3 Y (Xk (ov Y) (ov Y) ZcC h_x)<|Dq 4 Y (Zd (ov Y) tS5<|Qu<|Xv (o := 0) (o' := ((i64 (q * 3)).toNat * 1)) (Zt arL)<|Xt h_x)<|Dq 5 Y (Xn (ov Y) tI5 Zg8 Y)<|bE h fun q3 h_q3 h=>Dq 6 Y (Zdk (ov Y) (ov Y) h_q3)<|D1 7 Zb Y<|D1 8 Zb Y<|D2 9 ZP Y<|D1 10 ZC Y<|bE h fun x2 h_x2 h=>Dq 11 Y (Xk (ov Y) (ov Y) ZcC h_x2)<|Dq 12 Y (Zd (ov Y) tS5<|Qu<|Xv (o := 0) (o' := ((i64 ((i64 (q * 3)) + 1)).toNat * 1)) (Zt arL)<|Xt h_x2)<|Dq 13 Y (Xn (ov Y) tI5 Zg8 Y)<|bE h fun q4 h_q4 h=>Dq 14 Y (ZbM (ov Y) (ov Y) h_q4)<|D2 15 Zd5 Y<|D1 16 QC Y<|Dd<|?_
  obtain rfl := rt h
  exact Zi (ZN Y (.one<|rb Y))
 ·
  refine Zf<|Zg<|K2 0 5 Y<|Qj (cw := md0) (by kernel_rfl)<|D1 0 Zb Y<|D1 1 Zb Y<|D2 2 ZP Y<|D1 3 ZC Y<|bE h fun x3 h_x3 h=>Dq 4 Y (Xk (ov Y) (ov Y) ZcC h_x3)<|Dq 5 Y (Zd (ov Y) tS5<|Qu<|Xv (o := 0) (o' := ((i64 ((i64 (q * 3)) + 1)).toNat * 1)) (Zt arL)<|Xt h_x3)<|Dq 6 Y (Xn (ov Y) tI5 Zg8 Y)<|D2 7 Zbn Y<|bE h fun q5 h_q5 h=>Dq 8 Y (Zdk (ov Y) (ov Y) h_q5)<|D1 9 Zb Y<|D1 10 Zb Y<|D2 11 ZP Y<|D1 12 ZC Y<|bE h fun x4 h_x4 h=>Dq 13 Y (Xk (ov Y) (ov Y) ZcC h_x4)<|Dq 14 Y (Zd (ov Y) tS5<|Qu<|Xv (o := 0) (o' := ((i64 ((i64 (q * 3)) + 2)).toNat * 1)) (Zt arL)<|Xt h_x4)<|Dq 15 Y (Xn (ov Y) tI5 Zg8 Y)<|D2 16 Zd5 Y<|D1 17 QC Y<|Dd<|?_
  obtain rfl := rt h
  exact Zi (ZN Y (.one<|rb Y))
theorem Zhd {p : Vector Int 96} {r : (Vector Int 64)} (h : Zcd p = some r) :
 CSpec Tryd.prog gl0 64 [.rp (List.map C5 p.toList) 0] (.agg (List.map C26 r.toList)) := by
 unfold Zcd at h
 replace h := Qr h
 refine So Tryd.func64 Y fun w0 A=>Tr<|Rx Y (Qk (row := (List.map C26 (Vector.replicate 64 0).toList)) 0 Y Ze1 Y tZ_28)<|Za<|Tr<|Rx Y (Qk (row := (List.map C26 (Vector.replicate 64 0).toList)) 1 Y Ze1 Y tZ_28)<|Za<|I1 (fun f=>⟨[(2, .ptr 0 1 0 0), (3, .ptr 1 1 0 0)], [some ⟨28, [(List.map C26 (Vector.replicate 64 0).toList)]⟩, some ⟨28, [(List.map C26 f.toList)]⟩]⟩) h (fun h=>?_) fun f h=>?_
 ·
  refine Tr<|Rm Y<|Za<|Ze<|?_
  obtain ⟨r1, hl1, ho1⟩ := QH h
  refine L2 (fun f2 i=>⟨[(0, .rp (List.map C5 p.toList) 0), (2, .ptr 0 1 0 0), (3, .ptr 1 1 0 0), (5, .int .i64 i)], [some ⟨28, [(List.map C26 (Vector.replicate 64 0).toList)]⟩, some ⟨28, [(List.map C26 f2.toList)]⟩]⟩) hl1 (ES [some 0, some 1]) fun n1 f2 i h=>?_
  unfold Zat at h
  refine Tr<|R2 ZD Y<|Za<|Zg<|If h Y (fun h=>?_) fun h=>?_
  ·
   exact Zf<|Zg<|Ze<|K4 0 2 3 5 Y<|Tr<|Rm Y<|Ra Y<|Za<|K5 0 2 3 4 5 Y<|Zk<|Rm Y<|Rm Y<|Rm Y<|bE h fun y h_y h=>Rq Y (Zq (Zf6 h_y)<|.cons (ov Y) (.b Y)<|.cons (ov Y) (.b Y) .nil)<|bE h fun x h_x h=>Rq Y (XZ (ov Y) (ov Y) ZaI Y Y h_x)<|Rx Y (Zr (ov Y) (ov Y) (Zl ZaW) Y Y Y (arB h_x) (Zc Y)<|arS h_x)<|Za<|K4 0 2 3 5 Y<|Zk<|R2 ZP Y<|Rm Y<|Za<|⟨_, h, ES [some 0, some 1]⟩
  ·
   refine ZA<|?_
   replace h := lx h ▸ ho1
   exact ⟨_, h, ES [some 0, some 1]⟩
 ·
  refine Tr<|Rq Y (Q9 (ov Y) Y Y Y JG (QS<|Zt arL) arL (hns := (nsM fun _ => Y)))<|Rx Y (Zr (ov Y) (ov Y) (ZI JG arL) Y Y Y (ZaL (Zt arL) arL) (Zc<|arC fun _ => Y)<|Jl<|Eq.trans arL<|Eq.symm arL)<|Za<|?_
  obtain rfl := rt h
  exact Zi (ZN Y (.one<|.agg Y Y Y Y JG (QS<|Zt arL) arL (pwB<|arD fun _ => Y) (hns := (nsM fun _ => Y))))
theorem ZeF {b : List Int} {r : (Vector Int 64) × Int} (h : XM b = some r) :
 CSpec Tryd.prog gl0 42 [.sl 5 (List.map R5 b)] (.tuple [.agg (List.map C26 r.1.toList), .int .i64 r.2]) := by
 unfold XM at h
 replace h := Qr h
 refine So Tryd.func42 Y fun w0 A=>Tr<|Rx Y (Qk (row := (List.map C26 (Vector.replicate 64 0).toList)) 0 Y Ze1 Y tZ_28)<|Ra Y<|Za<|Zg<|K2 0 2 Y<|Tr<|Rm Y<|Rl tZ_5 XJ Y<|R2 ZD Y<|Za<|K3 0 2 7 Y<|If h Y (fun h=>?_) fun h=>?_
 ·
  refine K1 2 Y<|Tr<|R_q (.agg<|List.map C26 (#v[0, 0, 0, 0, 0, 0, 0, 0, 0, 0, 0, 0, 0, 0, 0, 0, 0, 0, 0, 0, 0, 0, 0, 0, 0, 0, 0, 0, 0, 0, 0, 0, 0, 0, 0, 0, 0, 0, 0, 0, 0, 0, 0, 0, 0, 0, 0, 0, 0, 0, 0, 0, 0, 0, 0, 0, 0, 0, 0, 0, 0, 0, 0, 0] : Vector Int 64).toList) Y (ZeV (ys := [_, _, _, _, _, _, _, _, _, _, _, _, _, _, _, _, _, _, _, _, _, _, _, _, _, _, _, _, _, _, _, _, _, _, _, _, _, _, _, _, _, _, _, _, _, _, _, _, _, _, _, _, _, _, _, _, _, _, _, _, _, _, _, _]) ZaI Ze1 .nil Y)<|Rx Y (Zr (ov Y) (ov Y) (ZI JG arL) Y Y Y (ZaL (Zt arL) arL) (Zc<|arC fun _ => Y)<|Jl<|Eq.trans arL<|Eq.symm arL)<|Ra Y<|Za<|?_
  obtain rfl := rt h
  exact Zi (ZN Y (.two (.agg Y Y Y Y JG (QS<|Zt arL) arL (pwB<|arD fun _ => Y) (hns := (nsM fun _ => Y)))<|rb Y))
 ·
  refine Zf<|K2 0 2 Y<|Tr<|Rm Y<|bE h fun l h_l h=>Rq Y (ZgG (ov Y) XJ on (oi<|ov Y) h_l)<|bE h fun v h_v h=>Rq Y (Zje (f := C5) (ov Y) ZcC tZ_5 Y h_v)<|Rq Y (Z9 (ov Y) Zm7 (QS<|Zt arL) arL)<|Rx Y (Qk (row := (List.map C5 (Vector.replicate 96 0).toList)) 1 Y Zm0 Y tZ_112)<|Rx Y (Zr (ov Y) (ov Y) (ZI Zm7 arL) Y Y Y (ZaL (Zt arL) arL) (Zc<|arC fun _ => Y)<|Jl<|Eq.trans arL<|Eq.symm arL)<|Za<|K2 2 4 Y<|Tr<|bE h fun y h_y h=>Rq Y (J5 (Zhd h_y) (ZgO fun _=>.int)<|.cons (ov Y) (View.ptr Y Y Y (pwB<|arD fun _ => Y) (hns := (nsM fun _ => Y))) .nil)<|Rx Y (Zr (ov Y) (ov Y) (ZI JG arL) Y Y Y (ZaL (Zt arL) arL) (Zc<|arC fun _ => Y)<|Jl<|Eq.trans arL<|Eq.symm arL)<|Ra Y<|Za<|?_
  obtain rfl := rt h
  exact Zi (ZN Y (.two (.agg Y Y Y Y JG (QS<|Zt arL) arL (pwB<|arD fun _ => Y) (hns := (nsM fun _ => Y)))<|rb Y))
theorem Zf3 {l : List api_Memory} {r : (List api_Kept) × Int} (h : Za6 l = some r) :
 CSpec Tryd.prog gl0 19 [.sl 43 (List.map R43 l)] (.tuple [.sl 63 (List.map R63 r.1), .int .i64 r.2]) := by
 unfold Za6 at h
 replace h := Qr h
 refine So Tryd.func19 Y fun w0 A=>Tr<|Ra Y<|Ra Y<|Za<|Zg<|K1 0 Y<|Tr<|Rm Y<|bE h fun y h_y h=>Rq Y (Zq (Zbr h_y)<|.cons (ov Y) (.b Y) .nil)<|Ra Y<|Za<|K2 0 4 Y<|Tr<|Rm Y<|R2 Q4 Y<|Za<|K3 0 4 20 Y<|If h Y (fun h=>?_) fun h=>?_
 ·
  refine K1 4 Y<|Tr<|Rm Y<|Ra Y<|Ra Y<|Za<|?_
  obtain rfl := rt h
  exact Zi (ZN Y (.two (.tmp Y<|View.nils 63)<|rb Y))
 ·
  refine Zf<|K1 0 Y<|Tr<|Ra Y<|Za<|I1 (fun out=>⟨[(5, .own 0 out.length)], [some ⟨63, List.map R63 out⟩]⟩) h (fun h=>?_) fun out h=>?_
  ·
   refine Tr<|Rm Y<|Rl tZ_43 JV Y<|Rm Y<|Za<|Ze<|?_
   obtain ⟨r1, hl1, ho1⟩ := QH h
   refine L2 (fun out2 i=>⟨[(5, .own 0 out2.length), (22, .sl 43 (List.map R43 l)), (23, .int .i64 (l.length : Int)), (24, .int .i64 i)], [some ⟨63, List.map R63 out2⟩]⟩) hl1 (ES [none]) fun n1 out2 i h=>?_
   unfold Jq at h
   refine Tr<|R2 ZD Y<|Za<|Zg<|If h Y (fun h=>?_) fun h=>?_
   ·
    refine Zf<|I1 (fun out3=>⟨[(5, .own 0 out3.length), (22, .sl 43 (List.map R43 l)), (23, .int .i64 (l.length : Int)), (24, .int .i64 i)], [some ⟨63, List.map R63 out3⟩]⟩) h (fun h=>?_) fun out3 h=>?_
    ·
     refine Ze<|K4 5 22 23 24 Y<|Tr<|Rm Y<|bE h fun x h_x h=>Rq Y (ZQ (ov Y) (ov Y) JV h_x)<|Rq Y (Z9 (ov Y) J7 Y Y)<|Rx Y (Qk (row := [_, _, _, _, _]) 1 Y Zgs Y tZ_43)<|Ra Y<|Rx Y (Zr (ov Y) (ov Y) (ZI J7 Y) Y Y Y (Nat.le_of_ble_eq_true Y) (Zc Y) Y)<|Za<|K6 5 6 7 22 23 24 Y<|Tr<|Rq Y (Q9 (ov Y) Y Y Y J7 Y Y)<|bE h fun y2 h_y2 h=>Rq Y (Zq (Zdq h_y2)<|.cons (ov Y) (.aggB Y) .nil)<|Rl tZ_3 Qs Y<|Rm Y<|Za<|Ze<|?_
     obtain ⟨r2, hl2, ho2⟩ := QH h
     refine L2 (fun out4 i2=>⟨[(5, .own 0 out4.length), (6, .int .i64 i), (7, .ptr 1 1 0 0), (22, .sl 43 (List.map R43 l)), (23, .int .i64 (l.length : Int)), (24, .int .i64 i), (30, .sl 3 (List.map R3 y2)), (31, .int .i64 (y2.length : Int)), (32, .int .i64 i2)], [some ⟨63, List.map R63 out4⟩, some ⟨43, [[.int .i64 x.Slots, .int .i64 x.Limit, .sl 47 (List.map R47 x.Sectors), .sl 3 (List.map R3 x.Wear), .sl 4 (List.map R4 x.Bad)]]⟩]⟩) hl2 (ES [some 0, some 1]) fun n2 out4 i2 h=>?_
     unfold Js at h
     refine Tr<|R2 ZD Y<|Za<|Zg<|If h Y (fun h=>?_) fun h=>?_
     ·
      refine Zf<|I1 (fun out5=>⟨[(5, .own 0 out5.length), (6, .int .i64 i), (7, .ptr 1 1 0 0), (22, .sl 43 (List.map R43 l)), (23, .int .i64 (l.length : Int)), (24, .int .i64 i), (30, .sl 3 (List.map R3 y2)), (31, .int .i64 (y2.length : Int)), (32, .int .i64 i2)], [some ⟨63, List.map R63 out5⟩, some ⟨43, [[.int .i64 x.Slots, .int .i64 x.Limit, .sl 47 (List.map R47 x.Sectors), .sl 3 (List.map R3 x.Wear), .sl 4 (List.map R4 x.Bad)]]⟩]⟩) h (fun h=>?_) fun out5 h=>?_
      ·
       refine Ze<|K9 5 6 7 22 23 24 30 31 32 Y<|Tr<|bE h fun x2 h_x2 h=>Rq Y (ZQ (ov Y) (ov Y) Qs h_x2)<|Rq Y (Zd (ov Y) tS3 Y)<|Ra Y<|Za<|K10 5 6 7 9 22 23 24 30 31 32 Y<|Tr<|Rq Y (Zo (ov Y) Y Y Jp)<|Rq Y (ZM (ov Y) Y Y Y Zc5 Y)<|Rm Y<|bE h fun x3 h_x3 h=>Rq Y (ZQ (ov Y) (ov Y) ZbQ h_x3)<|Rq Y (Zd (ov Y) ZeU Y)<|bE h fun y3 h_y3 h=>Rq Y (Zq (Za7 h_y3)<|.cons (ov Y) (.b Y) .nil)<|Rm Y<|Rq Y (Zj (ov Y) Y)<|Rq Y (Zj (ov Y) Y)<|Rq Y (Zj (ov Y) Y)<|Ra Y<|Ra Y<|Ra Y<|Za<|K11 5 6 7 9 10 22 23 24 30 31 32 Y<|Tr<|Rq Y (Zo (ov Y) Y Y Zd2)<|Rq Y (ZM (ov Y) Y Y Y tS3 Y)<|Rm Y<|Za<|Ze<|?_
       obtain ⟨r3, hl3, ho3⟩ := QH h
       refine L2 (fun out6 i3=>⟨[(5, .own 0 out6.length), (6, .int .i64 i), (7, .ptr 1 1 0 0), (9, .int .i64 x2), (10, .int .i64 y3.1), (22, .sl 43 (List.map R43 l)), (23, .int .i64 (l.length : Int)), (24, .int .i64 i), (30, .sl 3 (List.map R3 y2)), (31, .int .i64 (y2.length : Int)), (32, .int .i64 i2), (47, .int .i64 x.Slots), (48, .int .i64 i3)], [some ⟨63, List.map R63 out6⟩, some ⟨43, [[.int .i64 x.Slots, .int .i64 x.Limit, .sl 47 (List.map R47 x.Sectors), .sl 3 (List.map R3 x.Wear), .sl 4 (List.map R4 x.Bad)]]⟩]⟩) hl3 (ES [some 0, some 1]) fun n3 out6 i3 h=>?_
       unfold Jx at h
       refine Tr<|R2 ZD Y<|Za<|Zg<|If h Y (fun h=>?_) fun h=>?_
       ·
        refine Zf<|Zg<|Ze<|XY (kc 5 Y<|kc 6 Y<|kc 7 Y<|kc 9 Y<|kc 10 Y<|kc 22 Y<|kc 23 Y<|kc 24 Y<|kc 30 Y<|kc 31 Y<|kc 32 Y<|kc 47 Y<|kc 48 Y kn) Y<|Tr<|Rm Y<|Ra Y<|Za<|XY (kc 5 Y<|kc 6 Y<|kc 7 Y<|kc 9 Y<|kc 10 Y<|kc 13 Y<|kc 22 Y<|kc 23 Y<|kc 24 Y<|kc 30 Y<|kc 31 Y<|kc 32 Y<|kc 47 Y<|kc 48 Y kn) Y<|Tr<|Rq Y (Zo (ov Y) Y Y Jp)<|Rq Y (ZM (ov Y) Y Y Y Zc5 Y)<|Rm Y<|bE h fun x4 h_x4 h=>Rq Y (ZQ (ov Y) (ov Y) ZbQ h_x4)<|Rq Y (Zd (ov Y) ZeU Y)<|Rm Y<|bE h fun y4 h_y4 h=>Rq Y (Zq (ZdU h_y4)<|.cons (ov Y) (.b Y)<|.cons (ov Y) (.b Y) .nil)<|Ra Y<|Za<|XY (kc 5 Y<|kc 6 Y<|kc 7 Y<|kc 9 Y<|kc 10 Y<|kc 13 Y<|kc 14 Y<|kc 22 Y<|kc 23 Y<|kc 24 Y<|kc 30 Y<|kc 31 Y<|kc 32 Y<|kc 47 Y<|kc 48 Y kn) Y<|Tr<|Rm Y<|bE h fun y5 h_y5 h=>Rq Y (Zq (Zdt h_y5)<|.cons (ov Y) (.b Y) .nil)<|R2 Zbk Y<|Za<|XY (kc 5 Y<|kc 6 Y<|kc 7 Y<|kc 9 Y<|kc 10 Y<|kc 13 Y<|kc 14 Y<|kc 22 Y<|kc 23 Y<|kc 24 Y<|kc 30 Y<|kc 31 Y<|kc 32 Y<|kc 47 Y<|kc 48 Y<|kc 60 Y kn) Y<|If h Y (fun h=>?_) fun h=>?_
        ·
         exact XY (kc 5 Y<|kc 6 Y<|kc 7 Y<|kc 9 Y<|kc 10 Y<|kc 13 Y<|kc 14 Y<|kc 22 Y<|kc 23 Y<|kc 24 Y<|kc 30 Y<|kc 31 Y<|kc 32 Y<|kc 47 Y<|kc 48 Y kn) Y<|Tr<|Rm Y<|R1 ZC Y<|bE h fun l2 h_l2 h=>Rq Y (ZjR (f := C5) (ov Y) Zjq tZ_5 (Zt arL) Y on on h_l2)<|bE h fun y6 h_y6 h=>Rq Y (Zq (ZeF h_y6)<|.cons (ov Y) (.b Y) .nil)<|Rm Y<|Rq Y (Zj (ov Y) Y)<|Rq Y (Zj (ov Y) Y)<|Rx Y (Qk (row := (List.map C26 (Vector.replicate 64 0).toList)) 2 Y Ze1 Y tZ_28)<|Rx Y (Zr (ov Y) (ov Y) (ZI JG arL) Y Y Y (ZaL (Zt arL) arL) (Zc<|arC fun _ => Y)<|Jl<|Eq.trans arL<|Eq.symm arL)<|Ra Y<|Za<|XY (kc 5 Y<|kc 6 Y<|kc 7 Y<|kc 9 Y<|kc 10 Y<|kc 13 Y<|kc 15 Y<|kc 22 Y<|kc 23 Y<|kc 24 Y<|kc 30 Y<|kc 31 Y<|kc 32 Y<|kc 47 Y<|kc 48 Y kn) Y<|Zk<|Rm Y<|Rm Y<|Rm Y<|Rm Y<|Rm Y<|Rq Y (Q9 (ov Y) Y Y Y JG (QS<|Zt arL) arL (hns := (nsM fun _ => Y)))<|Rq Y (ZkR (zr := (.int .i64 0) :: (.int .i64 0) :: (.int .i64 0) :: (.int .i64 0) :: ((List.map C26 (Vector.replicate 64 0).toList) ++ ([]))) ZoE ZoF Znu (by kernel_rfl) (.cons (cvs (ov Y)<|Qm Y)<|.cons (cvs (ov Y)<|Qm Y)<|.cons (cvs (ov Y)<|Qm Y)<|.cons (cvs (ov Y)<|Qm Y)<|.cons (cva<|ov Y) .nil)<|Ze8 Y Y at1 pt2<|Ze8 Y Y at3 pt4<|Ze8 Y Y at5 pt6<|Ze8 Y Y at7 pt8<|Ze8 Y arL at9 Zpi Znn)<|R_q (.sl 63<|List.map R63 ([(api_Kept.mk i x2 y3.1 i3 y6.1)] : List api_Kept)) Y (ZbG Zl9 (.cons (cva<|ov Y) Zct (pwD ZeO) .nil) Y Y)<|bE h fun l3 h_l3 h=>Rx Y (QQ (ov Y) (QT (ov Y) tZ_63) Zl9 Y Y Y (fun x=>Zc<|E63 x) Y h_l3)<|Ra Y<|Za<|XY (kc 5 Y<|kc 6 Y<|kc 7 Y<|kc 9 Y<|kc 10 Y<|kc 22 Y<|kc 23 Y<|kc 24 Y<|kc 30 Y<|kc 31 Y<|kc 32 Y<|kc 47 Y<|kc 48 Y kn) Y<|Zk<|R2 ZP Y<|Rm Y<|Za<|⟨_, h, ES [some 0, some 1]⟩
        ·
         exact Zf<|XY (kc 5 Y<|kc 6 Y<|kc 7 Y<|kc 9 Y<|kc 10 Y<|kc 22 Y<|kc 23 Y<|kc 24 Y<|kc 30 Y<|kc 31 Y<|kc 32 Y<|kc 47 Y<|kc 48 Y kn) Y<|Zk<|R2 ZP Y<|Rm Y<|Za<|⟨_, h, ES [some 0, some 1]⟩
       ·
        refine ZA<|?_
        replace h := lx h ▸ ho3
        exact ⟨_, h, ES [some 0, some 1]⟩
      ·
       exact Zk<|R2 ZP Y<|Rm Y<|Za<|⟨_, h, ES [some 0, some 1]⟩
     ·
      refine ZA<|?_
      replace h := lx h ▸ ho2
      exact ⟨_, h, ES [some 0]⟩
    ·
     exact Zk<|R2 ZP Y<|Rm Y<|Za<|⟨_, h, ES [some 0]⟩
   ·
    refine ZA<|?_
    replace h := lx h ▸ ho1
    exact ⟨_, h, ES [some 0]⟩
  ·
   refine Tr<|Rm Y<|Ra Y<|Ra Y<|Za<|?_
   obtain rfl := rt h
   exact Zi (ZN Y (.two (.tmp Y<|View.ownM Y Y D63)<|rb Y))
theorem Zj9 {xs r : List Int} (h : ZfU xs = some r) :
    GSpec Tryd.prog gl0 22 [.own 0 xs.length] [some ⟨3, List.map R3 xs⟩] (.tuple []) [some ⟨3, List.map R3 r⟩] :=
  ZkW (g := R3) (fun _ => rfl) (by kernel_rfl) tZ_3 (fun _ _ _ _ _ h1 h2 h3 => Any.slices_Sort_int Tryd.lays189 _ _ _ _ _ h1 h2 h3) (fun p c w => Any.slices_Sort_int_none Tryd.lays189 p c w) h
theorem Zg6 {l : List api_Memory} {r : (List (Vector Int 64)) × Int} (h : ZbD l = some r) :
 CSpec Tryd.prog gl0 8 [.sl 43 (List.map R43 l)] (.tuple [.sl 28 (List.map R28 r.1), .int .i64 r.2]) := by
 unfold ZbD at h
 replace h := Qr h
 refine So Tryd.func8 Y fun w0 A=>Tr<|Ra Y<|Ra Y<|Za<|K1 0 Y<|Tr<|Rm Y<|bE h fun y h_y h=>Rq Y (Zq (Zf3 h_y)<|.cons (ov Y) (.b Y) .nil)<|Rm Y<|Rq Y (Zj (ov Y) Y)<|Rq Y (Zj (ov Y) Y)<|Ra Y<|Ra Y<|Za<|Zg<|K2 4 5 Y<|Tr<|Rm Y<|R2 Q4 Y<|Za<|K3 4 5 23 Y<|If h Y (fun h=>?_) fun h=>?_
 ·
  refine K1 5 Y<|Tr<|Rm Y<|Ra Y<|Ra Y<|Za<|?_
  obtain rfl := rt h
  exact Zi (ZN Y (.two (.tmp Y<|View.nils 28)<|rb Y))
 ·
  refine Zf<|K1 4 Y<|Tr<|Rx Y (Zj5 0 Y ZjS)<|Ra Y<|Za<|K2 4 6 Y<|Tr<|Ra Y<|Za<|I2 (fun best numbers=>⟨[(6, .mref 0 1), (7, .own 1 numbers.length)], [some ⟨61, [[.mcon (List.map (Zaf FK3 Zel) best)]]⟩, some ⟨3, List.map R3 numbers⟩]⟩) h (fun h=>?_) fun best numbers h=>?_
  ·
   refine Tr<|Rm Y<|Rl tZ_63 Zl9 Y<|Rm Y<|Za<|Ze<|?_
   obtain ⟨r1, hl1, ho1⟩ := QH h
   refine L3 (fun best2 numbers2 i=>⟨[(6, .mref 0 1), (7, .own 1 numbers2.length), (26, .sl 63 (List.map R63 y.1)), (27, .int .i64 (y.1.length : Int)), (28, .int .i64 i)], [some ⟨61, [[.mcon (List.map (Zaf FK3 Zel) best2)]]⟩, some ⟨3, List.map R3 numbers2⟩]⟩) hl1 (ES [some 0, none] (hhp := .cons Y (ZeS (fk := FK3) (fv := Zel) (m := ([] : List (Int × api_Kept))) tZ_61 (fun _=>.dat Y) fun _=>.ren<|Zdz<|rld ZeO)<|.row 3 .nil)) fun n1 best2 numbers2 i h=>?_
   unfold Xb at h
   refine Tr<|R2 ZD Y<|Za<|Zg<|If h Y (fun h=>?_) fun h=>?_
   ·
    refine Zf<|Zg<|Ze<|K5 6 7 26 27 28 Y<|Tr<|bE h fun x h_x h=>Rq Y (ZQ (ov Y) (ov Y) Zl9 h_x)<|Rq Y (Z9 (ov Y) Zl8 (QS<|Zt Zct) Zct)<|Rx Y (Qk (row := (.int .i64 0) :: (.int .i64 0) :: (.int .i64 0) :: (.int .i64 0) :: ((List.map C26 (Vector.replicate 64 0).toList) ++ ([]))) 2 Y Znu (by kernel_rfl)<|by exact Eq.symm (Eq.trans (b := 68) Zct tZ_63.symm))<|Rx Y (Zr (ov Y) (ov Y) (ZI Zl8 Zct) Y Y Y (ZaL (Zt Zct) Zct) (Zc ZnE)<|Jl<|Eq.trans Zct<|Eq.symm Zct)<|Za<|Zg<|K6 6 7 9 26 27 28 Y<|Tr<|Rq Y (Zo (ov Y) Y Y ZkY)<|Rq Y (Q9 (ov Y) Y Y Y JG (QS at9) arL (hns := (nsM fun _ => Y)))<|bE h fun y2 h_y2 h=>Rq Y (Zq (ZdK h_y2)<|.cons (ov Y) (.aggB<|arD fun _ => Y) .nil)<|Rl tZ_99 ZfG Y<|R2 ZaR Y<|Za<|K7 6 7 9 26 27 28 36 Y<|If h Y (fun h=>?_) fun h=>?_
    ·
     exact ZA<|K5 6 7 26 27 28 Y<|Zk<|R2 ZP Y<|Rm Y<|Za<|⟨_, h, ES [some 0, some 1] (hhp := .cons Y (ZeS (fk := FK3) (fv := Zel) (m := best2) tZ_61 (fun _=>.dat Y) fun _=>.ren<|Zdz<|rld ZeO)<|.cons Y (roM D3) .nil)⟩
    ·
     refine Zf<|K6 6 7 9 26 27 28 Y<|Tr<|Rq Y (Zo (ov Y) Y Y ZkY)<|Rq Y (Q9 (ov Y) Y Y Y JG (QS at9) arL (hns := (nsM fun _ => Y)))<|bE h fun y3 h_y3 h=>Rq Y (Zq (Zdn h_y3)<|.cons (ov Y) (.aggB<|arD fun _ => Y) .nil)<|Rm Y<|Rq Y (Zj (ov Y) Y)<|Rq Y (Zj (ov Y) Y)<|Ra Y<|Ra Y<|Za<|K7 6 7 9 10 26 27 28 Y<|Tr<|Rm Y<|Rm Y<|bE h fun o h_o h=>Rq Y (ZoH (m := best2) (fk := FK3) (fv := Zel) (k := y3.1) (z0 := (api_Kept.mk 0 0 0 0 (Vector.replicate 64 0))) (ov Y) (ov Y) ZjS ZnY Y (fun _=>.b Y) (Zie Zm5 Y) (fun _ _=>Y) h_o)<|Rm Y<|Rq Y (Zj (ov Y) Y)<|Rq Y (Zj (ov Y) Y)<|Rx Y (Qk (row := (.int .i64 0) :: (.int .i64 0) :: (.int .i64 0) :: (.int .i64 0) :: ((List.map C26 (Vector.replicate 64 0).toList) ++ ([]))) 3 Y Znu (by kernel_rfl)<|by exact Eq.symm (Eq.trans (b := 68) Zct tZ_63.symm))<|Rx Y (Zr (ov Y) (ov Y) (ZI Zl8 Zct) Y Y Y (ZaL (Zt Zct) Zct) (Zc ZnE)<|Jl<|Eq.trans Zct<|Eq.symm Zct)<|Ra Y<|Za<|I1 (fun numbers3=>⟨[(6, .mref 0 1), (7, .own 1 numbers3.length), (9, .ptr 2 1 0 0), (10, .int .i64 y3.1), (12, .ptr 3 1 0 0), (13, .bool o.isSome), (26, .sl 63 (List.map R63 y.1)), (27, .int .i64 (y.1.length : Int)), (28, .int .i64 i)], [some ⟨61, [[.mcon (List.map (Zaf FK3 Zel) best2)]]⟩, some ⟨3, List.map R3 numbers3⟩, some ⟨63, [(.int .i64 x.Memory) :: (.int .i64 x.Sector) :: (.int .i64 x.Sequence) :: (.int .i64 x.Slot) :: ((List.map C26 x.Frame.toList) ++ ([]))]⟩, some ⟨63, [(.int .i64 ((o.getD (api_Kept.mk 0 0 0 0 (Vector.replicate 64 0))).Memory)) :: (.int .i64 ((o.getD (api_Kept.mk 0 0 0 0 (Vector.replicate 64 0))).Sector)) :: (.int .i64 ((o.getD (api_Kept.mk 0 0 0 0 (Vector.replicate 64 0))).Sequence)) :: (.int .i64 ((o.getD (api_Kept.mk 0 0 0 0 (Vector.replicate 64 0))).Slot)) :: ((List.map C26 ((o.getD (api_Kept.mk 0 0 0 0 (Vector.replicate 64 0))).Frame).toList) ++ ([]))]⟩]⟩) h (fun h=>?_) fun numbers3 h=>?_
     ·
      refine K9 6 7 9 10 12 13 26 27 28 Y<|Tr<|Rm Y<|R1 XV Y<|Za<|K10 6 7 9 10 12 13 26 27 28 50 Y<|If h Y (fun h=>?_) fun h=>?_
      ·
       exact K9 6 7 9 10 12 13 26 27 28 Y<|Zk<|Rm Y<|Rm Y<|R_q (.sl 3<|List.map R3 ([y3.1] : List Int)) Y (ZbG Qs (.cons (cvs (ov Y)<|Qm Y) Y (.cons (.b Y) .nil) .nil) Y Y)<|bE h fun l2 h_l2 h=>Rx Y (QQ (ov Y) (QT (ov Y) tZ_3) Qs Y Y Y (fun _=>Zc Y) Y h_l2)<|Ra Y<|Za<|⟨_, h, ES [some 0, some 1, some 2, some 3] (hhp := .cons Y (ZeS (fk := FK3) (fv := Zel) (m := best2) tZ_61 (fun _=>.dat Y) fun _=>.ren<|Zdz<|rld ZeO)<|.cons Y (roM D3)<|.cons Y (ro1 (by exact Eq.trans (b := 68) Zct tZ_63.symm)<|rld ZeO)<|.cons Y (ro1 (by exact Eq.trans (b := 68) Zct tZ_63.symm)<|rld ZeO) .nil)⟩
      ·
       exact Zf<|⟨_, h, ES [some 0, some 1, some 2, some 3] (hhp := .cons Y (ZeS (fk := FK3) (fv := Zel) (m := best2) tZ_61 (fun _=>.dat Y) fun _=>.ren<|Zdz<|rld ZeO)<|.cons Y (roM D3)<|.cons Y (ro1 (by exact Eq.trans (b := 68) Zct tZ_63.symm)<|rld ZeO)<|.cons Y (ro1 (by exact Eq.trans (b := 68) Zct tZ_63.symm)<|rld ZeO) .nil)⟩
     ·
      refine Tr<|Rm Y<|R1 XV Y<|Rm Y<|Rq Y (.guarded ((!o.isSome) == false) Y Y Y Y fun h => Zo (ov Y) Y Y ZkK)<|Rq Y (.guarded ((!o.isSome) == false) Y Y Y Y fun h => ZM (ow Y h) Y Y Y tS3<|Qu at5)<|Rq Y (.guarded ((!o.isSome) == false) Y Y Y Y fun h => Zo (ov Y) Y Y ZkK)<|Rq Y (.guarded ((!o.isSome) == false) Y Y Y Y fun h => ZM (ow Y h) Y Y Y tS3<|Qu at5)<|Rq Y (.guarded ((!o.isSome) == false) Y Y Y Y fun h => ZaR (ow Y h)<|ow Y h)<|Rq Y (ZbU (ov Y) fun hp=>ow Y<|gF hp)<|Za<|K8 6 7 9 10 26 27 28 63 Y<|If h Y (fun h=>?_) fun h=>?_
      ·
       exact K7 6 7 9 10 26 27 28 Y<|Zk<|Rm Y<|Rm Y<|Rq Y (Q9 (ov Y) Y Y Y Zl8 (QS<|Zt Zct) Zct (hns := Zo9))<|Rx Y (Zlp (m := best2) (fk := FK3) (fv := Zel) (k := y3.1) (v := x) (ov Y) (ov Y) (ov Y) ZjS ZnY Y fun _=>.b Y)<|Za<|K5 6 7 26 27 28 Y<|Zk<|R2 ZP Y<|Rm Y<|Za<|⟨_, h, ES [some 0, some 1] (hhp := .cons Y (ZeS (fk := FK3) (fv := Zel) (m := (Ze3 kqI best2 y3.1 x)) tZ_61 (fun _=>.dat Y) fun _=>.ren<|Zdz<|rld ZeO)<|.cons Y (roM D3) .nil)⟩
      ·
       exact Zf<|K5 6 7 26 27 28 Y<|Zk<|R2 ZP Y<|Rm Y<|Za<|⟨_, h, ES [some 0, some 1] (hhp := .cons Y (ZeS (fk := FK3) (fv := Zel) (m := best2) tZ_61 (fun _=>.dat Y) fun _=>.ren<|Zdz<|rld ZeO)<|.cons Y (roM D3) .nil)⟩
   ·
    refine ZA<|?_
    replace h := lx h ▸ ho1
    exact ⟨_, h, ES [some 0, some 1] (hhp := .cons Y (ZeS (fk := FK3) (fv := Zel) (m := best2) tZ_61 (fun _=>.dat Y) fun _=>.ren<|Zdz<|rld ZeO)<|.cons Y (roM D3) .nil)⟩
  ·
   refine Tr<|Rm Y<|bE h fun y4 h_y4 h=>Rx Y (ZY [1] (Zj9 h_y4) (.cons (ov Y) (.own _ Y) .nil) (.cons Y (roM D3) .nil) Y (.keep Y Y<|.lent 0 (.inl Y) Y (roM D3) .nil) Y Y<|QV<|rld Y)<|Za<|K2 6 7 Y<|Tr<|Ra Y<|Za<|I1 (fun out=>⟨[(14, .own 0 out.length)], [some ⟨28, List.map R28 out⟩]⟩) h (fun h=>?_) fun out h=>?_
   ·
    refine Tr<|Rm Y<|Rq Y (ZeN (ov Y) Y (Zg3 h_y4) Qs)<|Rm Y<|Za<|Ze<|?_
    obtain ⟨r2, hl2, ho2⟩ := QH h
    refine L2 (fun out2 i2=>⟨[(6, .mref 0 1), (14, .own 1 out2.length), (70, .own 2 y4.length), (71, .int .i64 (y4.length : Int)), (72, .int .i64 i2)], [some ⟨61, [[.mcon (List.map (Zaf FK3 Zel) best)]]⟩, some ⟨28, List.map R28 out2⟩, some ⟨3, List.map R3 y4⟩]⟩) hl2 (Ent.sel [some 0, none, some 1] (sr 6 Y (.mref _ Y)<|sr 14 Y (.row Y)<|sr 70 Y (ZcN (Eq.symm<|Zg3 h_y4) Y)<|sd 71 Y Y<|sd 72 Y Y sn) (.cons Y (ZeS (fk := FK3) (fv := Zel) (m := best) tZ_61 (fun _=>.dat Y) fun _=>.ren<|Zdz<|rld ZeO)<|.row 28<|.cons Y (roM D3) .nil) Y Y) fun n2 out2 i2 h=>?_
    unfold JO at h
    refine Tr<|R2 ZD Y<|Za<|Zg<|If h Y (fun h=>?_) fun h=>?_
    ·
     exact Zf<|Zg<|Ze<|K5 6 14 70 71 72 Y<|Tr<|bE h fun x2 h_x2 h=>Rq Y (Qb (ov Y) (ov Y) Qs Y Y h_x2)<|Rq Y (Qc (ov Y) Y Y h_x2 tS3 Y)<|Ra Y<|Za<|K6 6 14 16 70 71 72 Y<|Zk<|Rm Y<|Rm Y<|Rm Y<|bE h fun o2 h_o2 h=>Rq Y (Zo0 (m := best) (fk := FK3) (fv := Zel) (k := x2) (z0 := (api_Kept.mk 0 0 0 0 (Vector.replicate 64 0))) (ov Y) (ov Y) ZjS ZnY Y (fun _=>.b Y) (Zie Zm5 Y) (fun _ _=>Y) h_o2)<|Rq Y (ZlY (ov Y) Zmx at9)<|R_q (.sl 28<|List.map R28 ([o2.Frame] : List (Vector Int 64))) Y (ZbG Zfi (.cons (cva<|ov Y) arL (pwD<|arD fun _ => Y) .nil) Y Y)<|bE h fun l3 h_l3 h=>Rx Y (QQ (ov Y) (QT (ov Y) tZ_28) Zfi Y Y Y (fun x=>Zc<|E28 x) Y h_l3)<|Ra Y<|Za<|K5 6 14 70 71 72 Y<|Zk<|R2 ZP Y<|Rm Y<|Za<|⟨_, h, ES [some 0, some 1, some 2] (hhp := .cons Y (ZeS (fk := FK3) (fv := Zel) (m := best) tZ_61 (fun _=>.dat Y) fun _=>.ren<|Zdz<|rld ZeO)<|.cons Y (roM D28)<|.cons Y (roM D3) .nil)⟩
    ·
     refine ZA<|?_
     replace h := lx h ▸ ho2
     exact ⟨_, h, ES [some 1]⟩
   ·
    refine Tr<|Rm Y<|Ra Y<|Ra Y<|Za<|?_
    obtain rfl := rt h
    exact Zi (ZN Y (.two (.tmp Y<|View.ownM Y Y D28)<|rb Y))
theorem ZfA {l : List api_Memory} {copies : Int} {r : Int × Int} (h : Zal l copies = some r) :
 CSpec Tryd.prog gl0 9 [.sl 43 (List.map R43 l), .int .i64 copies] (.tuple [.int .i64 r.1, .int .i64 r.2]) := by
 unfold Zal at h
 replace h := Qr h
 refine So Tryd.func9 Y fun w0 A=>Tr<|Ra Y<|Ra Y<|Za<|Zg<|K2 0 1 Y<|Tr<|Rm Y<|bE h fun y h_y h=>Rq Y (Zq (Zbr h_y)<|.cons (ov Y) (.b Y) .nil)<|Ra Y<|Za<|K3 0 1 6 Y<|Tr<|Rm Y<|R2 Q4 Y<|Za<|K4 0 1 6 17 Y<|If h Y (fun h=>?_) fun h=>?_
 ·
  refine K1 6 Y<|Tr<|Rm Y<|Ra Y<|Ra Y<|Za<|?_
  obtain rfl := rt h
  exact Zi (ZN Y (.two (rb Y)<|rb Y))
 ·
  refine Zf<|Zg<|K2 0 1 Y<|Tr<|Rm Y<|Rm Y<|Rl tZ_43 JV Y<|bE h fun y2 h_y2 h=>Rq Y (Zq (QN h_y2)<|.cons (ov Y) (.b Y)<|.cons (ov Y) (.b Y)<|.cons (ov Y) (.b Y) .nil)<|R1 XV Y<|Za<|K3 0 1 23 Y<|If h Y (fun h=>?_) fun h=>?_
  ·
   refine K0<|Tr<|Ra Y<|Ra Y<|Za<|?_
   obtain rfl := rt h
   exact Zi (ZN Y (.two (rb Y)<|rb Y))
  ·
   refine Zf<|K2 0 1 Y<|Tr<|Ra Y<|Za<|I1 (fun least=>⟨[(0, .sl 43 (List.map R43 l)), (1, .int .i64 copies), (7, .int .i64 least)], []⟩) h (fun h=>?_) fun least h=>?_
   ·
    refine Tr<|Rm Y<|Rl tZ_43 JV Y<|Rm Y<|Za<|Ze<|?_
    obtain ⟨r1, hl1, ho1⟩ := QH h
    refine L2 (fun least2 i=>⟨[(0, .sl 43 (List.map R43 l)), (1, .int .i64 copies), (7, .int .i64 least2), (24, .sl 43 (List.map R43 l)), (25, .int .i64 (l.length : Int)), (26, .int .i64 i)], []⟩) hl1 (ES []) fun n1 least2 i h=>?_
    unfold Je at h
    refine Tr<|R2 ZD Y<|Za<|Zg<|If h Y (fun h=>?_) fun h=>?_
    ·
     refine Zf<|Zg<|Ze<|K6 0 1 7 24 25 26 Y<|Tr<|bE h fun x h_x h=>Rq Y (ZQ (ov Y) (ov Y) JV h_x)<|Rq Y (Z9 (ov Y) J7 Y Y)<|Rx Y (Qk (row := [_, _, _, _, _]) 0 Y Zgs Y tZ_43)<|Rx Y (Zr (ov Y) (ov Y) (ZI J7 Y) Y Y Y (Nat.le_of_ble_eq_true Y) (Zc Y) Y)<|Za<|K7 0 1 7 9 24 25 26 Y<|Tr<|Ra Y<|Za<|I1 (fun good=>⟨[(0, .sl 43 (List.map R43 l)), (1, .int .i64 copies), (7, .int .i64 least2), (9, .ptr 0 1 0 0), (10, .int .i64 good), (24, .sl 43 (List.map R43 l)), (25, .int .i64 (l.length : Int)), (26, .int .i64 i)], [some ⟨43, [[.int .i64 x.Slots, .int .i64 x.Limit, .sl 47 (List.map R47 x.Sectors), .sl 3 (List.map R3 x.Wear), .sl 4 (List.map R4 x.Bad)]]⟩]⟩) h (fun h=>?_) fun good h=>?_
     ·
      refine Tr<|Rq Y (Zo (ov Y) Y Y Zc7)<|Rq Y (ZM (ov Y) Y Y Y Zhf Y)<|Rl tZ_4 Zh1 Y<|Rm Y<|Za<|Ze<|?_
      obtain ⟨r2, hl2, ho2⟩ := QH h
      refine L2 (fun good2 i2=>⟨[(0, .sl 43 (List.map R43 l)), (1, .int .i64 copies), (7, .int .i64 least2), (9, .ptr 0 1 0 0), (10, .int .i64 good2), (24, .sl 43 (List.map R43 l)), (25, .int .i64 (l.length : Int)), (26, .int .i64 i), (31, .sl 4 (List.map R4 x.Bad)), (32, .int .i64 (x.Bad.length : Int)), (33, .int .i64 i2)], [some ⟨43, [[.int .i64 x.Slots, .int .i64 x.Limit, .sl 47 (List.map R47 x.Sectors), .sl 3 (List.map R3 x.Wear), .sl 4 (List.map R4 x.Bad)]]⟩]⟩) hl2 (ES [some 0]) fun n2 good2 i2 h=>?_
      unfold Jf at h
      refine Tr<|R2 ZD Y<|Za<|Zg<|If h Y (fun h=>?_) fun h=>?_
      ·
       refine Zf<|Zg<|Ze<|K11 0 1 7 9 10 24 25 26 31 32 33 Y<|Tr<|bE h fun x2 h_x2 h=>Rq Y (ZQ (ov Y) (ov Y) Zh1 h_x2)<|Rq Y (Zd (ov Y) tS4 Y)<|Ra Y<|Za<|K12 0 1 7 9 10 12 24 25 26 31 32 33 Y<|Tr<|Rm Y<|R1 XV Y<|Za<|K12 0 1 7 9 10 24 25 26 31 32 33 38 Y<|If h Y (fun h=>?_) fun h=>?_
       ·
        exact K11 0 1 7 9 10 24 25 26 31 32 33 Y<|Zk<|Rm Y<|R2 ZP Y<|Ra Y<|Za<|K11 0 1 7 9 10 24 25 26 31 32 33 Y<|Zk<|R2 ZP Y<|Rm Y<|Za<|⟨_, h, ES [some 0]⟩
       ·
        exact Zf<|K11 0 1 7 9 10 24 25 26 31 32 33 Y<|Zk<|R2 ZP Y<|Rm Y<|Za<|⟨_, h, ES [some 0]⟩
      ·
       refine ZA<|?_
       replace h := lx h ▸ ho2
       exact ⟨_, h, ES [some 0]⟩
     ·
      refine Tr<|Rm Y<|R2 ZaV Y<|Rq Y (Zhi (ov Y) (ov Y) Y)<|Rq Y (Zo (ov Y) Y Y Zd2)<|Rq Y (ZM (ov Y) Y Y Y tS3 Y)<|R2 ZgU Y<|Ra Y<|Za<|K7 0 1 7 13 24 25 26 Y<|Tr<|Rm Y<|R2 ZD Y<|Rm Y<|Rq Y (.guarded ((decide (least2 < 0)) == false) Y Y Y Y fun h => Zb<|ov Y)<|Rq Y (.guarded ((decide (least2 < 0)) == false) Y Y Y Y fun h => Zb<|ov Y)<|Rq Y (.guarded ((decide (least2 < 0)) == false) Y Y Y Y fun h => ZD (ow Y h)<|ow Y h)<|Rq Y (ZbU (ov Y) fun hp=>ow Y<|gF hp)<|Za<|K8 0 1 7 13 24 25 26 54 Y<|If h Y (fun h=>?_) fun h=>?_
      ·
       exact K7 0 1 7 13 24 25 26 Y<|Zk<|Rm Y<|Ra Y<|Za<|K6 0 1 7 24 25 26 Y<|Zk<|R2 ZP Y<|Rm Y<|Za<|⟨_, h, ES []⟩
      ·
       exact Zf<|K6 0 1 7 24 25 26 Y<|Zk<|R2 ZP Y<|Rm Y<|Za<|⟨_, h, ES []⟩
    ·
     refine ZA<|?_
     replace h := lx h ▸ ho1
     exact ⟨_, h, ES []⟩
   ·
    refine Tr<|Rm Y<|Rm Y<|Rl tZ_43 JV Y<|R2 ZgU Y<|Rm Y<|bE h fun q h_q h=>Rq Y (ZhI (ov Y) (ov Y) h_q)<|Ra Y<|Ra Y<|Za<|?_
    obtain rfl := rt h
    exact Zi (ZN Y (.two (rb Y)<|rb Y))
theorem Zak {s : List (Vector Int 64)} {v : Vector Int 64} {r : Int} (h : Qn s v = some r) :
 CSpec Tryd.prog gl0 25 [.sl 28 (List.map R28 s), .agg (List.map C26 v.toList)] (.int .i64 r) := by
 unfold Qn at h
 replace h := Qr h
 refine So Tryd.func25 Y fun w0 A=>Tr<|Rq Y (ZcG (cva<|ov Y) arL tZ_28<|arD fun _ => Y)<|Ra Y<|Za<|J0 (fun j => (.inr j)) ⟨[], []⟩ h (fun h=>?_) fun h=>?_
 ·
  refine K2 0 3 Y<|Tr<|Rm Y<|Rl tZ_28 Zfi Y<|Rm Y<|Za<|Ze<|?_
  obtain ⟨r1, hl1, ho1⟩ := QH h
  refine L1 (fun i=>⟨[(0, .sl 28 (List.map R28 s)), (3, .rp (List.map C26 v.toList) 0), (7, .int .i64 (s.length : Int)), (8, .int .i64 i)], []⟩) hl1 (ES []) fun n1 i h=>?_
  unfold Z4 at h
  refine Tr<|R2 ZD Y<|Za<|Zg<|If h Y (fun h=>?_) fun h=>?_
  ·
   refine Zf<|Zg<|Ze<|K4 0 3 7 8 Y<|Tr<|Rm Y<|Ra Y<|Za<|Zg<|K5 0 3 5 7 8 Y<|Qj (cw := md0) (by kernel_rfl)<|Dq 0 Y (Z9 (ov Y) JG (QS<|Zt arL) arL)<|D1 1 Zb Y<|D1 2 Zb Y<|bE h fun x h_x h=>Dq 3 Y (ZQ (ov Y) (ov Y) Zfi h_x)<|Dq 4 Y (Z9 (ov Y) JG (QS<|Zt arL) arL)<|Dq 5 Y (ZnD ZoW (ov Y) (ov Y) (.aggB<|arD fun _ => Y) (.aggB<|arD fun _ => Y) (fkV fun _ => Y) (fkV fun _ => Y)<|eqV fun _ _ => Y)<|Dd<|K6 0 3 5 7 8 16 Y<|If h Y (fun h=>?_) fun h=>?_
   ·
    refine K1 5 Y<|Tr<|Rm Y<|Ra Y<|Za<|?_
    replace h := lx h ▸ ho1
    obtain rfl := rt h
    exact Zi (ZN Y (.one<|rb Y))
   ·
    exact Zf<|K4 0 3 7 8 Y<|Zk<|R2 ZP Y<|Rm Y<|Za<|⟨_, h, ES []⟩
  ·
   refine ZA<|?_
   replace h := lx h ▸ ho1
   exact ⟨(), h, ES []⟩
 ·
  replace h := elr h
  replace h := t0i h
  refine Tr<|Ra Y<|Za<|?_
  obtain rfl := rt h
  exact Zi (ZN Y (.one<|rb Y))
theorem JQ {s : List (Vector Int 64)} {v : Vector Int 64} {r : Bool} (h : ZV s v = some r) :
 CSpec Tryd.prog gl0 10 [.sl 28 (List.map R28 s), .agg (List.map C26 v.toList)] (.bool r) := by
 unfold ZV at h
 replace h := Qr h
 refine So Tryd.func10 Y fun w0 A=>Tr<|Rq Y (ZcG (cva<|ov Y) arL tZ_28<|arD fun _ => Y)<|Ra Y<|Za<|K3 0 3 4 Y<|Tr<|Rm Y<|Rq Y (Z9 (ov Y) JG (QS<|Zt arL) arL)<|bE h fun y h_y h=>Rq Y (Zq (Zak h_y)<|.cons (ov Y) (.b Y)<|.cons (ov Y) (.aggB<|arD fun _ => Y) .nil)<|R2 ZgJ Y<|Ra Y<|Za<|?_
 obtain rfl := rt h
 exact Zi (ZN Y (.one<|rb Y))
theorem Zdx {x : List Int} {r : Int} (h : XF x = some r) :
 CSpec Tryd.prog gl0 11 [.sl 3 (List.map R3 x)] (.int .i64 r) := by
 unfold XF at h
 replace h := Qr h
 refine So Tryd.func11 Y fun w0 A=>Tr<|Ra Y<|Za<|Zg<|K1 0 Y<|Tr<|Rm Y<|Rl tZ_3 Qs Y<|R2 ZD Y<|Za<|K2 0 7 Y<|If h Y (fun h=>?_) fun h=>?_
 ·
  exact (Zjt h).elim
 ·
  refine Zf<|K1 0 Y<|Tr<|Rm Y<|bE h fun x2 h_x2 h=>Rq Y (ZQ (ov Y) (ov Y) Qs h_x2)<|Rq Y (Zd (ov Y) tS3 Y)<|Ra Y<|Za<|I1 (fun m=>⟨[(3, .int .i64 m)], []⟩) h (fun h=>?_) fun m h=>?_
  ·
   refine K2 0 3 Y<|Tr<|Ra Y<|Za<|Ze<|?_
   obtain ⟨r1, hl1, ho1⟩ := QH h
   refine L2 (fun m2 i=>⟨[(0, .sl 3 (List.map R3 x)), (3, .int .i64 m2), (4, .int .i64 i)], []⟩) hl1 (ES []) fun n1 m2 i h=>?_
   unfold XI at h
   refine Zg<|Tr<|Rm Y<|Rm Y<|Rl tZ_3 Qs Y<|R2 ZD Y<|Za<|K4 0 3 4 15 Y<|If h Y (fun h=>?_) fun h=>?_
   ·
    exact Zf<|Zg<|Ze<|K3 0 3 4 Y<|Zk<|Rm Y<|Rm Y<|Rm Y<|bE h fun x3 h_x3 h=>Rq Y (ZQ (ov Y) (ov Y) Qs h_x3)<|Rq Y (Zd (ov Y) tS3 Y)<|Rq Y (Zhi (ov Y) (ov Y) Y)<|Ra Y<|Za<|K3 0 3 4 Y<|Zk<|Rm Y<|R2 ZP Y<|Ra Y<|Za<|⟨_, h, ES []⟩
   ·
    refine ZA<|?_
    replace h := lx h ▸ ho1
    exact ⟨_, h, ES []⟩
  ·
   refine Tr<|Rm Y<|Ra Y<|Za<|?_
   obtain rfl := rt h
   exact Zi (ZN Y (.one<|rb Y))
theorem Zdu {x : List Int} {r : Int} (h : XE x = some r) :
 CSpec Tryd.prog gl0 12 [.sl 3 (List.map R3 x)] (.int .i64 r) := by
 unfold XE at h
 replace h := Qr h
 refine So Tryd.func12 Y fun w0 A=>Tr<|Ra Y<|Za<|Zg<|K1 0 Y<|Tr<|Rm Y<|Rl tZ_3 Qs Y<|R2 ZD Y<|Za<|K2 0 7 Y<|If h Y (fun h=>?_) fun h=>?_
 ·
  exact (Zjt h).elim
 ·
  refine Zf<|K1 0 Y<|Tr<|Rm Y<|bE h fun x2 h_x2 h=>Rq Y (ZQ (ov Y) (ov Y) Qs h_x2)<|Rq Y (Zd (ov Y) tS3 Y)<|Ra Y<|Za<|I1 (fun m=>⟨[(3, .int .i64 m)], []⟩) h (fun h=>?_) fun m h=>?_
  ·
   refine K2 0 3 Y<|Tr<|Ra Y<|Za<|Ze<|?_
   obtain ⟨r1, hl1, ho1⟩ := QH h
   refine L2 (fun m2 i=>⟨[(0, .sl 3 (List.map R3 x)), (3, .int .i64 m2), (4, .int .i64 i)], []⟩) hl1 (ES []) fun n1 m2 i h=>?_
   unfold XH at h
   refine Zg<|Tr<|Rm Y<|Rm Y<|Rl tZ_3 Qs Y<|R2 ZD Y<|Za<|K4 0 3 4 15 Y<|If h Y (fun h=>?_) fun h=>?_
   ·
    exact Zf<|Zg<|Ze<|K3 0 3 4 Y<|Zk<|Rm Y<|Rm Y<|Rm Y<|bE h fun x3 h_x3 h=>Rq Y (ZQ (ov Y) (ov Y) Qs h_x3)<|Rq Y (Zd (ov Y) tS3 Y)<|Rq Y (ZoP (ov Y) (ov Y) Y)<|Ra Y<|Za<|K3 0 3 4 Y<|Zk<|Rm Y<|R2 ZP Y<|Ra Y<|Za<|⟨_, h, ES []⟩
   ·
    refine ZA<|?_
    replace h := lx h ▸ ho1
    exact ⟨_, h, ES []⟩
  ·
   refine Tr<|Rm Y<|Ra Y<|Za<|?_
   obtain rfl := rt h
   exact Zi (ZN Y (.one<|rb Y))
theorem ZbP {l : List api_Memory} {copies : Int} {first : Int} {count : Int} {r : Bool} (h : QW l copies first count = some r) :
 CSpec Tryd.prog gl0 3 [.sl 43 (List.map R43 l), .int .i64 copies, .int .i64 first, .int .i64 count] (.bool r) := by
 unfold QW at h
 replace h := Qr h
 refine So Tryd.func3 Y fun w0 A=>Tr<|Ra Y<|Za<|Zg<|K4 0 1 2 3 Y<|Tr<|bE h fun y h_y h=>Rq Y (Zq (Zh0 h_y) .nil)<|R1 XV Y<|Za<|K5 0 1 2 3 23 Y<|If h Y (fun h=>?_) fun h=>?_
 ·
  refine K0<|Tr<|Ra Y<|Za<|?_
  obtain rfl := rt h
  exact Zi (ZN Y (.one<|rb Y))
 ·
  refine Zf<|Zg<|K4 0 1 2 3 Y<|Tr<|Rm Y<|bE h fun y2 h_y2 h=>Rq Y (Zq (Zha h_y2)<|.cons (ov Y) (.b Y)<|.cons (ov Y) (.b Y) .nil)<|R1 XV Y<|Rm Y<|Rq Y (.guarded ((!y2) == false) Y Y Y Y fun h => Zb<|ov Y)<|Rq Y (.guarded ((!y2) == false) Y Y Y Y fun h => ZD (ow Y h)<|ov Y)<|Rq Y (ZbU (ov Y) fun hp=>ow Y<|gF hp)<|Rm Y<|Rq Y (.guarded (((!y2) || (decide (copies < 1))) == false) Y Y Y Y fun h => Zb<|ov Y)<|Rq Y (.guarded (((!y2) || (decide (copies < 1))) == false) Y Y Y Y fun h => Zb<|ov Y)<|Rq Y (.guarded (((!y2) || (decide (copies < 1))) == false) Y Y Y Y fun h => ZfO (QT (ow Y h) tZ_43) JV<|Zcw _ _)<|Rq Y (.guarded (((!y2) || (decide (copies < 1))) == false) Y Y Y Y fun h => ZaR (ow Y h)<|ow Y h)<|Rq Y (ZbU (ov Y) fun hp=>ow Y<|gF hp)<|Rm Y<|Rq Y (.guarded ((((!y2) || (decide (copies < 1))) || (decide ((l.length : Int) < copies))) == false) Y Y Y Y fun h => Zb<|ov Y)<|Rq Y (.guarded ((((!y2) || (decide (copies < 1))) || (decide ((l.length : Int) < copies))) == false) Y Y Y Y fun h => ZD (ow Y h)<|ov Y)<|Rq Y (ZbU (ov Y) fun hp=>ow Y<|gF hp)<|Rm Y<|Rq Y (.guarded (((((!y2) || (decide (copies < 1))) || (decide ((l.length : Int) < copies))) || (decide (first < 0))) == false) Y Y Y Y fun h => Zb<|ov Y)<|Rq Y (.guarded (((((!y2) || (decide (copies < 1))) || (decide ((l.length : Int) < copies))) || (decide (first < 0))) == false) Y Y Y Y fun h => ZaR (ow Y h)<|ov Y)<|Rq Y (ZbU (ov Y) fun hp=>ow Y<|gF hp)<|Rm Y<|Rq Y (.guarded ((((((!y2) || (decide (copies < 1))) || (decide ((l.length : Int) < copies))) || (decide (first < 0))) || (decide (4194104 < first))) == false) Y Y Y Y fun h => Zb<|ov Y)<|Rq Y (.guarded ((((((!y2) || (decide (copies < 1))) || (decide ((l.length : Int) < copies))) || (decide (first < 0))) || (decide (4194104 < first))) == false) Y Y Y Y fun h => ZD (ow Y h)<|ov Y)<|Rq Y (ZbU (ov Y) fun hp=>ow Y<|gF hp)<|Rm Y<|Rq Y (.guarded (((((((!y2) || (decide (copies < 1))) || (decide ((l.length : Int) < copies))) || (decide (first < 0))) || (decide (4194104 < first))) || (decide (count < 0))) == false) Y Y Y Y fun h => Zb<|ov Y)<|Rq Y (.guarded (((((((!y2) || (decide (copies < 1))) || (decide ((l.length : Int) < copies))) || (decide (first < 0))) || (decide (4194104 < first))) || (decide (count < 0))) == false) Y Y Y Y fun h => ZaR (ow Y h)<|ov Y)<|Rq Y (ZbU (ov Y) fun hp=>ow Y<|gF hp)<|Za<|K5 0 1 2 3 52 Y<|If h Y (fun h=>?_) fun h=>?_
  ·
   refine K0<|Tr<|Ra Y<|Za<|?_
   obtain rfl := rt h
   exact Zi (ZN Y (.one<|rb Y))
  ·
   refine Zf<|K4 0 1 2 3 Y<|Tr<|Ra Y<|Za<|J1 (fun j => (.inr j)) (fun frames=>⟨[(0, .sl 43 (List.map R43 l)), (1, .int .i64 copies), (3, .int .i64 count), (9, .own 0 frames.length)], [some ⟨28, List.map R28 frames⟩]⟩) h (fun h=>?_) fun frames h=>?_
   ·
    refine Tr<|Rm Y<|Rm Y<|Za<|Ze<|?_
    obtain ⟨r1, hl1, ho1⟩ := QH h
    refine L2 (fun frames2 i=>⟨[(0, .sl 43 (List.map R43 l)), (1, .int .i64 copies), (2, .int .i64 first), (3, .int .i64 count), (9, .own 0 frames2.length), (53, .int .i64 count), (54, .int .i64 i)], [some ⟨28, List.map R28 frames2⟩]⟩) hl1 (ES [none]) fun n1 frames2 i h=>?_
    unfold Qd at h
    refine Tr<|R2 ZD Y<|Za<|Zg<|If h Y (fun h=>?_) fun h=>?_
    ·
     refine Zf<|Zg<|Ze<|K7 0 1 2 3 9 53 54 Y<|Tr<|Rm Y<|Ra Y<|Za<|K8 0 1 2 3 9 10 53 54 Y<|Tr<|Rm Y<|Rm Y<|R2 ZP Y<|bE h fun l2 h_l2 h=>Rx Y (ZjW [none] (r := 1) (f := R3) (z0 := 0) Y (ov Y) (ov Y) Qs Y tZ3 Y Y h_l2)<|bE h fun y3 h_y3 h=>Rq Y (J5 (ZeQ h_y3) (.tuple<|by simp only [List.mem_cons, List.not_mem_nil, or_false, forall_eq_or_imp, forall_eq]; exact ⟨(ZgO (fun _ => .int)), .int⟩)<|.cons (ov Y) (Dat.view<|.b Y)<|.cons (ov Y) (View.ownM Y Y D3) .nil)<|Rm Y<|Rq Y (Zj (ov Y) Y)<|Rq Y (Zj (ov Y) Y)<|Rx Y (Qk (row := (List.map C26 (Vector.replicate 64 0).toList)) 2 Y Ze1 Y tZ_28)<|Rx Y (Zr (ov Y) (ov Y) (ZI JG arL) Y Y Y (ZaL (Zt arL) arL) (Zc<|arC fun _ => Y)<|Jl<|Eq.trans arL<|Eq.symm arL)<|Ra Y<|Za<|Zg<|K9 0 1 2 3 9 11 12 53 54 Y<|Tr<|Rm Y<|R2 Q4 Y<|Za<|K9 0 1 2 3 9 11 53 54 66 Y<|If h Y (fun h=>?_) fun h=>?_
     ·
      refine K0<|Tr<|Ra Y<|Za<|?_
      replace h := lx h ▸ ho1
      obtain rfl := rt h
      exact Zi (ZN Y (.one<|rb Y))
     ·
      exact Zf<|K8 0 1 2 3 9 11 53 54 Y<|Zk<|Rm Y<|Rq Y (Q9 (ov Y) Y Y Y JG (QS<|Zt arL) arL (hns := (nsM fun _ => Y)))<|R_q (.sl 28<|List.map R28 ([y3.1] : List (Vector Int 64))) Y (ZbG Zfi (.cons (cva<|ov Y) arL (pwD<|arD fun _ => Y) .nil) Y Y)<|bE h fun l3 h_l3 h=>Rx Y (QQ (ov Y) (QT (ov Y) tZ_28) Zfi Y Y Y (fun x=>Zc<|E28 x) Y h_l3)<|Ra Y<|Za<|K7 0 1 2 3 9 53 54 Y<|Zk<|R2 ZP Y<|Rm Y<|Za<|⟨_, h, ES [some 0]⟩
    ·
     refine ZA<|?_
     replace h := lx h ▸ ho1
     exact ⟨_, h, ES [some 0]⟩
   ·
    replace h := elr h
    replace h := t1i h
    refine Tr<|Rm Y<|Rm Y<|Rm Y<|bE h fun y4 h_y4 h=>QR (Ent.sel [none] (sd 0 Y Y<|sd 1 Y Y<|sd 3 Y Y<|sr 9 Y (ZmD Y Y Y D28)<|sd 73 Y Y<|sd 74 Y Y<|sr 75 Y (ZmD Y Y Y D28) sn) (.row 28 .nil) Y Y)<|Rq Y (Zq (Zfy h_y4)<|.cons (ov Y) (.b Y)<|.cons (ov Y) (.b Y)<|.cons (ov Y) (.b Y)<|.cons (ov Y) (.b Y) .nil)<|Rm Y<|Rq Y (Zj (ov Y) Y)<|Rq Y (Zj (ov Y) Y)<|Rq Y (Zj (ov Y) Y)<|Ra Y<|Ra Y<|Ra Y<|Za<|Zg<|K7 0 1 3 9 13 14 15 Y<|Tr<|Rm Y<|R1 XV Y<|Rm Y<|Rq Y (.guarded ((!y4.2.2) == false) Y Y Y Y fun h => Zb<|ov Y)<|Rq Y (.guarded ((!y4.2.2) == false) Y Y Y Y fun h => ZfO (QT (ow Y h) tZ_28) Zfi<|Zcw _ _)<|Rq Y (.guarded ((!y4.2.2) == false) Y Y Y Y fun h => Zb<|ov Y)<|Rq Y (.guarded ((!y4.2.2) == false) Y Y Y Y fun h => Q4 (ow Y h)<|ow Y h)<|Rq Y (ZbU (ov Y) fun hp=>ow Y<|gF hp)<|Za<|K6 0 1 3 9 14 87 Y<|If h Y (fun h=>?_) fun h=>?_
    ·
     refine K0<|Tr<|Ra Y<|Za<|?_
     obtain rfl := rt h
     exact Zi (ZN Y (.one<|rb Y))
    ·
     refine Zf<|K5 0 1 3 9 14 Y<|Tr<|Rm Y<|bE h fun y5 h_y5 h=>Rq Y (Zq (Zg6 h_y5)<|.cons (ov Y) (.b Y) .nil)<|Rm Y<|Rq Y (Zj (ov Y) Y)<|Rq Y (Zj (ov Y) Y)<|Ra Y<|Ra Y<|Za<|Zg<|K7 0 1 3 9 14 16 17 Y<|Tr<|Rm Y<|R2 Q4 Y<|Za<|K7 0 1 3 9 14 16 94 Y<|If h Y (fun h=>?_) fun h=>?_
     ·
      refine K0<|Tr<|Ra Y<|Za<|?_
      obtain rfl := rt h
      exact Zi (ZN Y (.one<|rb Y))
     ·
      refine Zf<|K6 0 1 3 9 14 16 Y<|Tr<|Rm Y<|Rm Y<|bE h fun y6 h_y6 h=>Rq Y (Zq (ZfA h_y6)<|.cons (ov Y) (.b Y)<|.cons (ov Y) (.b Y) .nil)<|Rm Y<|Rq Y (Zj (ov Y) Y)<|Rq Y (Zj (ov Y) Y)<|Ra Y<|Ra Y<|Za<|Zg<|K6 3 9 14 16 17 18 Y<|Tr<|Rm Y<|R2 Q4 Y<|Za<|K6 3 9 14 16 18 102 Y<|If h Y (fun h=>?_) fun h=>?_
      ·
       refine K0<|Tr<|Ra Y<|Za<|?_
       obtain rfl := rt h
       exact Zi (ZN Y (.one<|rb Y))
      ·
       refine Zf<|J0 (fun j => (.inr j)) ⟨[(14, .sl 43 (List.map R43 y4.2.1))], []⟩ h (fun h=>?_) fun h=>?_
       ·
        refine K5 3 9 14 16 18 Y<|Tr<|Rm Y<|Rm Y<|R2 ZaV Y<|Rq Y (Zhi (ov Y) (ov Y) Y)<|Ra Y<|Za<|Ze<|?_
        obtain ⟨r2, hl2, ho2⟩ := QH h
        refine L1 (fun k=>⟨[(3, .int .i64 count), (9, .sl 28 (List.map R28 frames)), (14, .sl 43 (List.map R43 y4.2.1)), (16, .sl 28 (List.map R28 y5.1)), (19, .int .i64 k)], []⟩) hl2 (ES []) fun n2 k h=>?_
        unfold Qe at h
        refine Zg<|Tr<|Rm Y<|Rm Y<|R2 ZD Y<|Za<|K6 3 9 14 16 19 109 Y<|If h Y (fun h=>?_) fun h=>?_
        ·
         refine Zf<|Zg<|Ze<|K5 3 9 14 16 19 Y<|Tr<|Rm Y<|Rm Y<|Rm Y<|bE h fun x h_x h=>Rq Y (ZQ (ov Y) (ov Y) Zfi h_x)<|Rq Y (Z9 (ov Y) JG (QS<|Zt arL) arL)<|bE h fun y7 h_y7 h=>Rq Y (Zq (JQ h_y7)<|.cons (ov Y) (.b Y)<|.cons (ov Y) (.aggB<|arD fun _ => Y) .nil)<|R1 XV Y<|Za<|K6 3 9 14 16 19 118 Y<|If h Y (fun h=>?_) fun h=>?_
         ·
          refine K0<|Tr<|Ra Y<|Za<|?_
          replace h := lx h ▸ ho2
          obtain rfl := rt h
          exact Zi (ZN Y (.one<|rb Y))
         ·
          exact Zf<|K5 3 9 14 16 19 Y<|Zk<|Rm Y<|R2 ZP Y<|Ra Y<|Za<|⟨_, h, ES []⟩
        ·
         refine ZA<|?_
         replace h := lx h ▸ ho2
         exact ⟨(), h, ES []⟩
       ·
        replace h := elr h
        replace h := t0i h
        refine J0 (fun j => (.inr j)) ⟨[], []⟩ h (fun h=>?_) fun h=>?_
        ·
         refine Tr<|Rm Y<|Rl tZ_43 JV Y<|Rm Y<|Za<|Ze<|?_
         obtain ⟨r3, hl3, ho3⟩ := QH h
         refine L1 (fun i2=>⟨[(119, .sl 43 (List.map R43 y4.2.1)), (120, .int .i64 (y4.2.1.length : Int)), (121, .int .i64 i2)], []⟩) hl3 (ES []) fun n3 i2 h=>?_
         unfold Qf at h
         refine Tr<|R2 ZD Y<|Za<|Zg<|If h Y (fun h=>?_) fun h=>?_
         ·
          refine Zf<|Zg<|Ze<|K3 119 120 121 Y<|Tr<|bE h fun x2 h_x2 h=>Rq Y (ZQ (ov Y) (ov Y) JV h_x2)<|Rq Y (Z9 (ov Y) J7 Y Y)<|Rx Y (Qk (row := [_, _, _, _, _]) 0 Y Zgs Y tZ_43)<|Rx Y (Zr (ov Y) (ov Y) (ZI J7 Y) Y Y Y (Nat.le_of_ble_eq_true Y) (Zc Y) Y)<|Za<|Zg<|K4 21 119 120 121 Y<|Qj (cw := md0) (by kernel_rfl)<|Dq 0 Y (Zo (ov Y) Y Y ZbO)<|Dq 1 Y (ZM (ov Y) Y Y Y Zf7 Y)<|bE h fun y8 h_y8 h=>Dq 2 Y (Zq (Zdx h_y8)<|.cons (ov Y) (.b Y) .nil)<|Dq 3 Y (Zo (ov Y) Y Y ZbO)<|Dq 4 Y (ZM (ov Y) Y Y Y Zf7 Y)<|bE h fun y9 h_y9 h=>Dq 5 Y (Zq (Zdu h_y9)<|.cons (ov Y) (.b Y) .nil)<|D2 6 ZaV Y<|D2 7 ZaR Y<|Dd<|K4 119 120 121 132 Y<|If h Y (fun h=>?_) fun h=>?_
          ·
           refine K0<|Tr<|Ra Y<|Za<|?_
           replace h := lx h ▸ ho3
           obtain rfl := rt h
           exact Zi (ZN Y (.one<|rb Y))
          ·
           exact Zf<|K3 119 120 121 Y<|Zk<|R2 ZP Y<|Rm Y<|Za<|⟨_, h, ES []⟩
         ·
          refine ZA<|?_
          replace h := lx h ▸ ho3
          exact ⟨(), h, ES []⟩
        ·
         replace h := elr h
         replace h := t0i h
         refine Tr<|Ra Y<|Za<|?_
         obtain rfl := rt h
         exact Zi (ZN Y (.one<|rb Y))
end Go.Proofs.YtjfoenlooacoiaaDoor
