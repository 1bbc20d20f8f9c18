/- A text of the proof: a verified executor of the program form, or the contracts of the functions that the law reaches. -/
import Derived.Test.YtpfdelgflppgnabDoorOkBb
set_option linter.all false
namespace Go.Proofs.YtpfdelgflppgnabDoor
open Go Go.Vx
set_option maxRecDepth 10000
set_option maxHeartbeats 1000000
set_option linter.unusedVariables false
theorem ZbJ {t : List ((Vector Int 3) × Bool)} {l : List api_Cell} {r : Bool × (List ((Vector Int 3) × Bool))} (h : QW t l = some r) :
 GSpec Tryd.prog gl0 57 [.mref 0 1, .sl 58 (List.map R58 l)] [some ⟨94, [[.mcon (List.map (QS Q7 FV4) t)]]⟩] (.bool r.1) [some ⟨94, [[.mcon (List.map (QS Q7 FV4) r.2)]]⟩] := by
 unfold QW at h
 replace h := Z0 h
 refine ZfJ (by kernel_rfl) Tryd.func57 Y Y<|?_
 intro w0 A W φ0
 refine Tr<|Ra Y<|Za<|K2 0 1 Y<|Tr<|Ra Y<|Za<|I2 (fun o ok=>⟨[(5, .bool ok)], [some ⟨94, [[.mcon (List.map (QS Q7 FV4) o)]]⟩]⟩) h (fun h=>?_) fun o ok h=>?_
 ·
  refine Tr<|Rm Y<|Rl tZ_58 ZbZ Y<|Rm Y<|Za<|Zd<|?_
  obtain ⟨r1, hl1, ho1⟩ := Qt h
  refine L3 (fun o2 ok2 i=>⟨[(0, .mref 0 1), (5, .bool ok2), (8, .sl 58 (List.map R58 l)), (9, .int .i64 (l.length : Int)), (10, .int .i64 i)], [some ⟨94, [[.mcon (List.map (QS Q7 FV4) o2)]]⟩]⟩) hl1 (ES [some 0] (hhp := .cons Y (QK (fk := Q7) (fv := FV4) (m := t) tZ_94 (fun _=>X2<|rld<|arD fun _ => Y) fun _=>.ren<|.dat Y) .nil)) fun n1 o2 ok2 i h=>?_
  unfold Qu at h
  refine Tr<|R2 ZH Y<|Za<|Zh<|If h Y (fun h=>?_) fun h=>?_
  ·
   refine Ze<|Zh<|Zd<|K5 0 5 8 9 10 Y<|Tr<|bE h fun x h_x h=>Rq Y (ZE (ov Y) (ov Y) ZbZ h_x)<|Rq Y (Zk (ov Y) ZdO Y Y)<|Rx Y (Zq (row := [_, _, _, _]) 1 Y ZhG Y tZ_58)<|Rx Y (Zj (ov Y) (ov Y) (Zg ZdO Y) Y Y Y (Nat.le_of_ble_eq_true Y) (Zc Y) Y)<|Za<|K6 0 5 7 8 9 10 Y<|Tr<|Rm Y<|Rq Y (Zp (ov Y) Y Y Zc4)<|Rq Y (Zm (ov Y) Y Y Y Zh0 Y)<|bE h fun y h_y h=>Rx Y (ZeK [0] (Zfh h_y) (.cons (ov Y) (.mref _ Y)<|.cons (ov Y) (.dat Y) .nil) (.cons Y (QK (fk := Q7) (fv := FV4) (m := o2) tZ_94 (fun _=>X2<|rld<|arD fun _ => Y) fun _=>.ren<|.dat Y) .nil) Y (.lent 0 (.inl Y) Y (QK (fk := Q7) (fv := FV4) (m := y.2) tZ_94 (fun _=>X2<|rld<|arD fun _ => Y) fun _=>.ren<|.dat Y)<|.keep Y Y .nil) Y Y<|.dat Y)<|R1 X1 Y<|Za<|K6 0 5 8 9 10 18 Y<|If h Y (fun h=>?_) fun h=>?_
   ·
    exact K5 0 5 8 9 10 Y<|Zt<|Ra Y<|Za<|Zt<|R2 ZT Y<|Rm Y<|Za<|⟨_, h, ES [some 0] (hhp := .cons Y (QK (fk := Q7) (fv := FV4) (m := y.2) tZ_94 (fun _=>X2<|rld<|arD fun _ => Y) fun _=>.ren<|.dat Y) .nil)⟩
   ·
    exact Ze<|K5 0 5 8 9 10 Y<|Zt<|R2 ZT Y<|Rm Y<|Za<|⟨_, h, ES [some 0] (hhp := .cons Y (QK (fk := Q7) (fv := FV4) (m := y.2) tZ_94 (fun _=>X2<|rld<|arD fun _ => Y) fun _=>.ren<|.dat Y) .nil)⟩
  ·
   refine Zz<|?_
   replace h := lx h ▸ ho1
   exact ⟨_, h, ES [some 0] (hhp := .cons Y (QK (fk := Q7) (fv := FV4) (m := o2) tZ_94 (fun _=>X2<|rld<|arD fun _ => Y) fun _=>.ren<|.dat Y) .nil)⟩
 ·
  refine Tr<|Rm Y<|Ra Y<|Za<|?_
  obtain rfl := rt h
  exact Zi<|ZmV [some 0] Y (.cons (.tmp Y) .nil) (.cons Y (QK (fk := Q7) (fv := FV4) (m := o) tZ_94 (fun _=>X2<|rld<|arD fun _ => Y) fun _=>.ren<|.dat Y) .nil) Y Y<|.dat Y
theorem Zfc {p : api_Param} {r : Int} (h : Jz p = some r) :
 CSpec Tryd.prog gl0 55 [.agg [.str p.Name, .int .i64 p.Kind, .sl 42 (List.map R42 p.Parts), .int .i64 p.First, .int .i64 p.Every, .int .i64 p.Times, .int .i64 p.Step, .sl 9 (List.map R9 p.Names)]] (.int .i64 r) := by
 unfold Jz at h
 replace h := Z0 h
 refine So Tryd.func55 Y fun w0 A=>Tr<|Rq Y (Qa (cva<|ov Y) Y tZ_46 Y)<|Ra Y<|Za<|Zh<|K1 1 Y<|Tr<|Rq Y (Zf (ov Y) Zgz)<|Rq Y (Zb (ov Y) tS9 Y)<|bE h fun y h_y h=>Rq Y (Zl (Zeg h_y)<|.cons (ov Y) (.b Y) .nil)<|R1 X1 Y<|Za<|K2 1 10 Y<|If h Y (fun h=>?_) fun h=>?_
 ·
  refine K0<|Tr<|Ra Y<|Za<|?_
  obtain rfl := rt h
  exact Zi (Zn Y (.one<|rb Y))
 ·
  refine Ze<|Zh<|K1 1 Y<|Tr<|Rq Y (Zf (ov Y) ZaY)<|Rq Y (Zb (ov Y) tS3 Y)<|bE h fun y2 h_y2 h=>Rq Y (Zl (Qn h_y2)<|.cons (ov Y) (.b Y)<|.cons (ov Y) (.b Y)<|.cons (ov Y) (.b Y) .nil)<|Za<|K2 1 13 Y<|If h Y (fun h=>?_) fun h=>?_
  ·
   refine K0<|Tr<|Ra Y<|Za<|?_
   obtain rfl := rt h
   exact Zi (Zn Y (.one<|rb Y))
  ·
   refine Ze<|Zh<|K1 1 Y<|Tr<|Rq Y (Zk (ov Y) Q5 Y Y)<|bE h fun y3 h_y3 h=>Rq Y (Zl (Zfa h_y3)<|.cons (ov Y) (.aggB Y) .nil)<|Ra Y<|Za<|K2 1 3 Y<|Tr<|Rm Y<|R2 QZ Y<|Za<|K3 1 3 17 Y<|If h Y (fun h=>?_) fun h=>?_
   ·
    refine K1 3 Y<|Tr<|Rm Y<|Ra Y<|Za<|?_
    obtain rfl := rt h
    exact Zi (Zn Y (.one<|rb Y))
   ·
    refine Ze<|Zh<|K1 1 Y<|Tr<|Rq Y (Zk (ov Y) Q5 Y Y)<|bE h fun y4 h_y4 h=>Rq Y (Zl (Ze7 h_y4)<|.cons (ov Y) (.aggB Y) .nil)<|Ra Y<|Za<|K2 1 4 Y<|Tr<|Rm Y<|R2 QZ Y<|Za<|K3 1 4 22 Y<|If h Y (fun h=>?_) fun h=>?_
    ·
     refine K1 4 Y<|Tr<|Rm Y<|Ra Y<|Za<|?_
     obtain rfl := rt h
     exact Zi (Zn Y (.one<|rb Y))
    ·
     refine Ze<|Zh<|K1 1 Y<|Tr<|Rq Y (Zk (ov Y) Q5 Y Y)<|bE h fun y5 h_y5 h=>Rq Y (Zl (Zf0 h_y5)<|.cons (ov Y) (.aggB Y) .nil)<|Ra Y<|Za<|K2 1 5 Y<|Tr<|Rm Y<|R2 QZ Y<|Za<|K3 1 5 27 Y<|If h Y (fun h=>?_) fun h=>?_
     ·
      refine K1 5 Y<|Tr<|Rm Y<|Ra Y<|Za<|?_
      obtain rfl := rt h
      exact Zi (Zn Y (.one<|rb Y))
     ·
      refine Ze<|K1 1 Y<|Tr<|Rq Y (Zk (ov Y) Q5 Y Y)<|bE h fun y6 h_y6 h=>Rq Y (Zl (Zb5 h_y6)<|.cons (ov Y) (.aggB Y)<|.cons (ov Y) (.b Y) .nil)<|Ra Y<|Za<|Zh<|K1 6 Y<|Tr<|Rx Y (Zdm 0 Y ZkZ)<|Rm Y<|bE h fun y7 h_y7 h=>Rx Y (ZeK [0] (ZbJ h_y7) (.cons (ov Y) (.mref _ Y)<|.cons (ov Y) (.dat Y) .nil) (.cons Y (QK (fk := Q7) (fv := FV4) (m := ([] : List ((Vector Int 3) × Bool))) tZ_94 (fun _=>X2<|rld<|arD fun _ => Y) fun _=>.ren<|.dat Y) .nil) Y (.lent 0 (.inl Y) Y (QK (fk := Q7) (fv := FV4) (m := y7.2) tZ_94 (fun _=>X2<|rld<|arD fun _ => Y) fun _=>.ren<|.dat Y) .nil) Y Y<|.dat Y)<|R1 X1 Y<|Za<|K2 6 34 Y<|If h Y (fun h=>?_) fun h=>?_
      ·
       refine K0<|Tr<|Ra Y<|Za<|?_
       obtain rfl := rt h
       exact Zi (Zn Y (.one<|rb Y))
      ·
       refine Ze<|Zh<|K1 6 Y<|Tr<|Rm Y<|Rl tZ_58 ZbZ Y<|R2 Qz Y<|Za<|K1 37 Y<|If h Y (fun h=>?_) fun h=>?_
       ·
        refine K0<|Tr<|Ra Y<|Za<|?_
        obtain rfl := rt h
        exact Zi (Zn Y (.one<|rb Y))
       ·
        refine Ze<|K0<|Tr<|Ra Y<|Za<|?_
        obtain rfl := rt h
        exact Zi (Zn Y (.one<|rb Y))
theorem Zh6 {m : api_Map} {r : Int × Int} (h : ZcM m = some r) :
 CSpec Tryd.prog gl0 20 [.agg [.int .i64 m.Version, .sl 46 (List.map R46 m.Params)]] (.tuple [.int .i64 r.1, .int .i64 r.2]) := by
 unfold ZcM at h
 replace h := Z0 h
 refine So Tryd.func20 Y fun w0 A=>Tr<|Rq Y (Qa (cva<|ov Y) Y tZ_24 Y)<|Ra Y<|Ra Y<|Za<|Zh<|K1 1 Y<|Tr<|Rq Y (Zf (ov Y) Zht)<|Rq Y (Zb (ov Y) tS3 Y)<|bE h fun y h_y h=>Rq Y (Zl (Qn h_y)<|.cons (ov Y) (.b Y)<|.cons (ov Y) (.b Y)<|.cons (ov Y) (.b Y) .nil)<|Za<|K2 1 17 Y<|If h Y (fun h=>?_) fun h=>?_
 ·
  refine K0<|Tr<|Ra Y<|Ra Y<|Za<|?_
  obtain rfl := rt h
  exact Zi (Zn Y (.two (rb Y)<|rb Y))
 ·
  refine Ze<|Zh<|K1 1 Y<|Tr<|Rq Y (Zf (ov Y) J9)<|Rq Y (Zb (ov Y) Zd9 Y)<|Rl tZ_46 Za9 Y<|R2 X0 Y<|Za<|K2 1 21 Y<|If h Y (fun h=>?_) fun h=>?_
  ·
   refine K0<|Tr<|Ra Y<|Ra Y<|Za<|?_
   obtain rfl := rt h
   exact Zi (Zn Y (.two (rb Y)<|rb Y))
  ·
   refine Ze<|K1 1 Y<|Tr<|Ra Y<|Za<|J0 (fun j => (.inr j)) ⟨[(1, .rp [.int .i64 m.Version, .sl 46 (List.map R46 m.Params)] 0), (4, .int .i64 0)], []⟩ h (fun h=>?_) fun h=>?_
   ·
    refine Tr<|Rq Y (Zf (ov Y) J9)<|Rq Y (Zb (ov Y) Zd9 Y)<|Rl tZ_46 Za9 Y<|Rm Y<|Za<|Zd<|?_
    obtain ⟨r1, hl1, ho1⟩ := Qt h
    refine L1 (fun i=>⟨[(1, .rp [.int .i64 m.Version, .sl 46 (List.map R46 m.Params)] 0), (4, .int .i64 0), (23, .sl 46 (List.map R46 m.Params)), (24, .int .i64 (m.Params.length : Int)), (25, .int .i64 i)], []⟩) hl1 (ES []) fun n1 i h=>?_
    unfold ZaD at h
    refine Tr<|R2 ZH Y<|Za<|Zh<|If h Y (fun h=>?_) fun h=>?_
    ·
     refine Ze<|J0 (fun j => (.inr j)) ⟨[(1, .rp [.int .i64 m.Version, .sl 46 (List.map R46 m.Params)] 0), (4, .int .i64 0), (23, .sl 46 (List.map R46 m.Params)), (24, .int .i64 (m.Params.length : Int)), (25, .int .i64 i)], []⟩ h (fun h=>?_) fun h=>?_
     ·
      refine Zd<|K5 1 4 23 24 25 Y<|Tr<|Rm Y<|bE h fun x h_x h=>Rq Y (ZE (ov Y) (ov Y) Za9 h_x)<|Rq Y (Zk (ov Y) Q5 Y Y)<|Rx Y (Zq (row := [_, _, _, _, _, _, _, _]) 0 Y Zhh Y tZ_46)<|Ra Y<|Rx Y (Zj (ov Y) (ov Y) (Zg Q5 Y) Y Y Y (Nat.le_of_ble_eq_true Y) (Zc Y) Y)<|Za<|Zh<|K7 1 4 5 6 23 24 25 Y<|Tr<|Rq Y (ZC (ov Y) Y Y Y Q5 Y Y)<|bE h fun y2 h_y2 h=>Rq Y (Zl (Zfc h_y2)<|.cons (ov Y) (.aggB Y) .nil)<|Ra Y<|Za<|K8 1 4 5 6 7 23 24 25 Y<|Tr<|Rm Y<|R2 QZ Y<|Za<|K9 1 4 5 6 7 23 24 25 33 Y<|If h Y (fun h=>?_) fun h=>?_
      ·
       refine K2 5 7 Y<|Tr<|Rm Y<|Rm Y<|Ra Y<|Ra Y<|Za<|?_
       replace h := lx h ▸ ho1
       obtain rfl := rt h
       exact Zi (Zn Y (.two (rb Y)<|rb Y))
      ·
       refine Ze<|K7 1 4 5 6 23 24 25 Y<|Tr<|Rq Y (Zf (ov Y) J9)<|Rq Y (Zb (ov Y) Zd9 Y)<|Rm Y<|bE h fun l h_l h=>Rq Y (ZfM (ov Y) Za9 on (oi<|ov Y) h_l)<|Rl tZ_46 Za9 Y<|Rm Y<|Za<|Zd<|?_
       obtain ⟨r2, hl2, ho2⟩ := Qt h
       refine L1 (fun i2=>⟨[(1, .rp [.int .i64 m.Version, .sl 46 (List.map R46 m.Params)] 0), (4, .int .i64 0), (5, .int .i64 i), (6, .ptr 0 1 0 0), (23, .sl 46 (List.map R46 m.Params)), (24, .int .i64 (m.Params.length : Int)), (25, .int .i64 i), (39, .sl 46 (List.map R46 l)), (40, .int .i64 (l.length : Int)), (41, .int .i64 i2)], [some ⟨46, [[.str x.Name, .int .i64 x.Kind, .sl 42 (List.map R42 x.Parts), .int .i64 x.First, .int .i64 x.Every, .int .i64 x.Times, .int .i64 x.Step, .sl 9 (List.map R9 x.Names)]]⟩]⟩) hl2 (ES [some 0]) fun n2 i2 h=>?_
       unfold ZaE at h
       refine Tr<|R2 ZH Y<|Za<|Zh<|If h Y (fun h=>?_) fun h=>?_
       ·
        refine Ze<|Zh<|Zd<|K10 1 4 5 6 23 24 25 39 40 41 Y<|Tr<|bE h fun x2 h_x2 h=>Rq Y (ZE (ov Y) (ov Y) Za9 h_x2)<|Rq Y (Zk (ov Y) Q5 Y Y)<|Rx Y (Zq (row := [_, _, _, _, _, _, _, _]) 1 Y Zhh Y tZ_46)<|Rx Y (Zj (ov Y) (ov Y) (Zg Q5 Y) Y Y Y (Nat.le_of_ble_eq_true Y) (Zc Y) Y)<|Za<|K11 1 4 5 6 9 23 24 25 39 40 41 Y<|Tr<|Rq Y (Zp (ov Y) Y Y Zgz)<|Rq Y (Zm (ov Y) Y Y Y tS9 Y)<|Rq Y (Zp (ov Y) Y Y Zgz)<|Rq Y (Zm (ov Y) Y Y Y tS9 Y)<|R2 Zfx Y<|Za<|K11 1 4 5 6 23 24 25 39 40 41 49 Y<|If h Y (fun h=>?_) fun h=>?_
        ·
         refine K1 5 Y<|Tr<|Rm Y<|Ra Y<|Ra Y<|Za<|?_
         replace h := lx h ▸ ho2
         replace h := lx h ▸ ho1
         obtain rfl := rt h
         exact Zi (Zn Y (.two (rb Y)<|rb Y))
        ·
         exact Ze<|K10 1 4 5 6 23 24 25 39 40 41 Y<|Zt<|R2 ZT Y<|Rm Y<|Za<|⟨_, h, ES [some 0]⟩
       ·
        refine Zz<|?_
        replace h := lx h ▸ ho2
        exact ⟨(), h, ES []⟩
     ·
      replace h := elr h
      replace h := t0i h
      exact Zt<|R2 ZT Y<|Rm Y<|Za<|⟨_, h, ES []⟩
    ·
     refine Zz<|?_
     replace h := lx h ▸ ho1
     exact ⟨(), h, ES []⟩
   ·
    replace h := elr h
    replace h := t0i h
    refine J0 (fun j => (.inr j)) ⟨[(1, .rp [.int .i64 m.Version, .sl 46 (List.map R46 m.Params)] 0)], []⟩ h (fun h=>?_) fun h=>?_
    ·
     refine Tr<|Rq Y (Zf (ov Y) J9)<|Rq Y (Zb (ov Y) Zd9 Y)<|Rl tZ_46 Za9 Y<|Rm Y<|Za<|Zd<|?_
     obtain ⟨r3, hl3, ho3⟩ := Qt h
     refine L2 (fun n i3=>⟨[(1, .rp [.int .i64 m.Version, .sl 46 (List.map R46 m.Params)] 0), (4, .int .i64 n), (54, .sl 46 (List.map R46 m.Params)), (55, .int .i64 (m.Params.length : Int)), (56, .int .i64 i3)], []⟩) hl3 (ES []) fun n3 n i3 h=>?_
     unfold JA at h
     refine Tr<|R2 ZH Y<|Za<|Zh<|If h Y (fun h=>?_) fun h=>?_
     ·
      refine Ze<|Zh<|Zd<|K5 1 4 54 55 56 Y<|Tr<|Rm Y<|bE h fun x3 h_x3 h=>Rq Y (ZE (ov Y) (ov Y) Za9 h_x3)<|Rq Y (Zk (ov Y) Q5 Y Y)<|Rx Y (Zq (row := [_, _, _, _, _, _, _, _]) 0 Y Zhh Y tZ_46)<|Ra Y<|Rx Y (Zj (ov Y) (ov Y) (Zg Q5 Y) Y Y Y (Nat.le_of_ble_eq_true Y) (Zc Y) Y)<|Za<|K7 1 4 10 11 54 55 56 Y<|Tr<|Rm Y<|Rq Y (ZC (ov Y) Y Y Y Q5 Y Y)<|Rm Y<|bE h fun y3 h_y3 h=>Rq Y (Zl (Zb5 h_y3)<|.cons (ov Y) (.aggB Y)<|.cons (ov Y) (.b Y) .nil)<|Rl tZ_58 ZbZ Y<|R2 ZT Y<|Ra Y<|Za<|K6 1 4 10 54 55 56 Y<|Tr<|Rm Y<|R2 X0 Y<|Za<|K7 1 4 10 54 55 56 68 Y<|If h Y (fun h=>?_) fun h=>?_
      ·
       refine K1 10 Y<|Tr<|Rm Y<|Ra Y<|Ra Y<|Za<|?_
       replace h := lx h ▸ ho3
       obtain rfl := rt h
       exact Zi (Zn Y (.two (rb Y)<|rb Y))
      ·
       exact Ze<|K5 1 4 54 55 56 Y<|Zt<|R2 ZT Y<|Rm Y<|Za<|⟨_, h, ES []⟩
     ·
      refine Zz<|?_
      replace h := lx h ▸ ho3
      exact ⟨(), h, ES []⟩
    ·
     replace h := elr h
     replace h := t0i h
     refine Tr<|Rx Y (Zdm 0 Y ZkZ)<|Ra Y<|Za<|J0 (fun j => (.inr j)) ⟨[], []⟩ h (fun h=>?_) fun h=>?_
     ·
      refine K2 1 12 Y<|Tr<|Rq Y (Zf (ov Y) J9)<|Rq Y (Zb (ov Y) Zd9 Y)<|Rl tZ_46 Za9 Y<|Rm Y<|Za<|Zd<|?_
      obtain ⟨r4, hl4, ho4⟩ := Qt h
      refine L2 (fun t i4=>⟨[(12, .mref 0 1), (73, .sl 46 (List.map R46 m.Params)), (74, .int .i64 (m.Params.length : Int)), (75, .int .i64 i4)], [some ⟨94, [[.mcon (List.map (QS Q7 FV4) t)]]⟩]⟩) hl4 (ES [some 0] (hhp := .cons Y (QK (fk := Q7) (fv := FV4) (m := ([] : List ((Vector Int 3) × Bool))) tZ_94 (fun _=>X2<|rld<|arD fun _ => Y) fun _=>.ren<|.dat Y) .nil)) fun n4 t i4 h=>?_
      unfold JB at h
      refine Tr<|R2 ZH Y<|Za<|Zh<|If h Y (fun h=>?_) fun h=>?_
      ·
       refine Ze<|Zh<|Zd<|K4 12 73 74 75 Y<|Tr<|Rm Y<|bE h fun x4 h_x4 h=>Rq Y (ZE (ov Y) (ov Y) Za9 h_x4)<|Rq Y (Zk (ov Y) Q5 Y Y)<|Rx Y (Zq (row := [_, _, _, _, _, _, _, _]) 1 Y Zhh Y tZ_46)<|Ra Y<|Rx Y (Zj (ov Y) (ov Y) (Zg Q5 Y) Y Y Y (Nat.le_of_ble_eq_true Y) (Zc Y) Y)<|Za<|K6 12 13 14 73 74 75 Y<|Tr<|Rm Y<|Rq Y (ZC (ov Y) Y Y Y Q5 Y Y)<|Rm Y<|bE h fun y4 h_y4 h=>Rq Y (Zl (Zb5 h_y4)<|.cons (ov Y) (.aggB Y)<|.cons (ov Y) (.b Y) .nil)<|bE h fun y5 h_y5 h=>Rx Y (ZeK [0] (ZbJ h_y5) (.cons (ov Y) (.mref _ Y)<|.cons (ov Y) (.dat Y) .nil) (.cons Y (QK (fk := Q7) (fv := FV4) (m := t) tZ_94 (fun _=>X2<|rld<|arD fun _ => Y) fun _=>.ren<|.dat Y) .nil) Y (.lent 0 (.inl Y) Y (QK (fk := Q7) (fv := FV4) (m := y5.2) tZ_94 (fun _=>X2<|rld<|arD fun _ => Y) fun _=>.ren<|.dat Y)<|.keep Y Y .nil) Y Y<|.dat Y)<|R1 X1 Y<|Za<|K6 12 13 73 74 75 85 Y<|If h Y (fun h=>?_) fun h=>?_
       ·
        refine K1 13 Y<|Tr<|Rm Y<|Ra Y<|Ra Y<|Za<|?_
        replace h := lx h ▸ ho4
        obtain rfl := rt h
        exact Zi (Zn Y (.two (rb Y)<|rb Y))
       ·
        exact Ze<|K4 12 73 74 75 Y<|Zt<|R2 ZT Y<|Rm Y<|Za<|⟨_, h, ES [some 0] (hhp := .cons Y (QK (fk := Q7) (fv := FV4) (m := y5.2) tZ_94 (fun _=>X2<|rld<|arD fun _ => Y) fun _=>.ren<|.dat Y) .nil)⟩
      ·
       refine Zz<|?_
       replace h := lx h ▸ ho4
       exact ⟨(), h, ES []⟩
     ·
      replace h := elr h
      replace h := t0i h
      refine Tr<|Ra Y<|Ra Y<|Za<|?_
      obtain rfl := rt h
      exact Zi (Zn Y (.two (rb Y)<|rb Y))
theorem Zgh {m : api_Map} {r : (List api_Cell)} (h : ZaA m = some r) :
 CSpec Tryd.prog gl0 21 [.agg [.int .i64 m.Version, .sl 46 (List.map R46 m.Params)]] (.sl 58 (List.map R58 r)) := by
 unfold ZaA at h
 replace h := Z0 h
 refine So Tryd.func21 Y fun w0 A=>Tr<|Rq Y (Qa (cva<|ov Y) Y tZ_24 Y)<|Ra Y<|Za<|K1 1 Y<|Tr<|Ra Y<|Za<|I1 (fun out=>⟨[(3, .own 0 out.length)], [some ⟨58, List.map R58 out⟩]⟩) h (fun h=>?_) fun out h=>?_
 ·
  refine Tr<|Rq Y (Zf (ov Y) J9)<|Rq Y (Zb (ov Y) Zd9 Y)<|Rl tZ_46 Za9 Y<|Rm Y<|Za<|Zd<|?_
  obtain ⟨r1, hl1, ho1⟩ := Qt h
  refine L2 (fun out2 i=>⟨[(3, .own 0 out2.length), (7, .sl 46 (List.map R46 m.Params)), (8, .int .i64 (m.Params.length : Int)), (9, .int .i64 i)], [some ⟨58, List.map R58 out2⟩]⟩) hl1 (ES [none]) fun n1 out2 i h=>?_
  unfold ZbW at h
  refine Tr<|R2 ZH Y<|Za<|Zh<|If h Y (fun h=>?_) fun h=>?_
  ·
   exact Ze<|Zh<|Zd<|K4 3 7 8 9 Y<|Tr<|Rm Y<|bE h fun x h_x h=>Rq Y (ZE (ov Y) (ov Y) Za9 h_x)<|Rq Y (Zk (ov Y) Q5 Y Y)<|Rx Y (Zq (row := [_, _, _, _, _, _, _, _]) 1 Y Zhh Y tZ_46)<|Ra Y<|Rx Y (Zj (ov Y) (ov Y) (Zg Q5 Y) Y Y Y (Nat.le_of_ble_eq_true Y) (Zc Y) Y)<|Za<|K6 3 4 5 7 8 9 Y<|Zt<|Rm Y<|Rq Y (ZC (ov Y) Y Y Y Q5 Y Y)<|Rm Y<|bE h fun y h_y h=>Rq Y (Zl (Zb5 h_y)<|.cons (ov Y) (.aggB Y)<|.cons (ov Y) (.b Y) .nil)<|bE h fun l h_l h=>Rx Y (Zii (ov Y) (X8 (ov Y) tZ_58) ZbZ Y Y (fun _=>Zc Y) Y h_l)<|Ra Y<|Za<|K4 3 7 8 9 Y<|Zt<|R2 ZT Y<|Rm Y<|Za<|⟨_, h, ES [some 0]⟩
  ·
   refine Zz<|?_
   replace h := lx h ▸ ho1
   exact ⟨_, h, ES [some 0]⟩
 ·
  refine Tr<|Rm Y<|Ra Y<|Za<|?_
  obtain rfl := rt h
  exact Zi (Zn Y (.one<|.tmp Y<|View.ownM Y Y D58))
theorem ZgX {k : Int} {r : Int} (h : Zct k = some r) :
 CSpec Tryd.prog gl0 58 [.int .i64 k] (.int .i64 r) := by
 unfold Zct at h
 replace h := Z0 h
 refine So Tryd.func58 Y fun w0 A=>Tr<|Ra Y<|Za<|K1 0 Y<|Tr<|Ra Y<|Za<|I1 (fun n=>⟨[(3, .int .i64 n)], []⟩) h (fun h=>?_) fun n h=>?_
 ·
  refine Tr<|Rm Y<|Rm Y<|Za<|Zd<|?_
  obtain ⟨r1, hl1, ho1⟩ := Qt h
  refine L2 (fun n2 i=>⟨[(3, .int .i64 n2), (4, .int .i64 k), (5, .int .i64 i)], []⟩) hl1 (ES []) fun n1 n2 i h=>?_
  unfold Zcp at h
  refine Tr<|R2 ZH Y<|Za<|Zh<|If h Y (fun h=>?_) fun h=>?_
  ·
   exact Ze<|Zh<|Zd<|K3 3 4 5 Y<|Zt<|Rm Y<|R2 ZhK Y<|Ra Y<|Za<|K3 3 4 5 Y<|Zt<|R2 ZT Y<|Rm Y<|Za<|⟨_, h, ES []⟩
  ·
   refine Zz<|?_
   replace h := lx h ▸ ho1
   exact ⟨_, h, ES []⟩
 ·
  refine Tr<|Rm Y<|Ra Y<|Za<|?_
  obtain rfl := rt h
  exact Zi (Zn Y (.one<|rb Y))
theorem Zhn {p : api_Param} {r : Int × Int} (h : Zci p = some r) :
 CSpec Tryd.prog gl0 22 [.agg [.str p.Name, .int .i64 p.Kind, .sl 42 (List.map R42 p.Parts), .int .i64 p.First, .int .i64 p.Every, .int .i64 p.Times, .int .i64 p.Step, .sl 9 (List.map R9 p.Names)]] (.tuple [.int .i64 r.1, .int .i64 r.2]) := by
 unfold Zci at h
 replace h := Z0 h
 refine So Tryd.func22 Y fun w0 A=>Tr<|Rq Y (Qa (cva<|ov Y) Y tZ_46 Y)<|Ra Y<|Ra Y<|Za<|K1 1 Y<|Tr<|Rq Y (Zk (ov Y) Q5 Y Y)<|bE h fun y h_y h=>Rq Y (Zl (Zbf h_y)<|.cons (ov Y) (.aggB Y) .nil)<|Ra Y<|Za<|Zh<|K2 1 4 Y<|Tr<|Rq Y (Zf (ov Y) ZaY)<|Rq Y (Zb (ov Y) tS3 Y)<|Za<|Zd<|K3 1 4 8 Y<|Tr<|R2 Qz Y<|Ra Y<|Za<|K4 1 4 8 9 Y<|If h Y (fun h=>?_) fun h=>?_
 ·
  refine K1 4 Y<|Td md0<|D1 0 Zr Y<|D2 1 JV Y<|bE h fun q h_q h=>Dq 2 Y (Jb (ov Y) (ov Y) h_q)<|Dq 3 Y (ZlY (ov Y) Y)<|D1 4 Zr Y<|D2 5 JV Y<|bE h fun q2 h_q2 h=>Dq 6 Y (Jb (ov Y) (ov Y) h_q2)<|D2 7 JV Y<|D1 8 Qe Y<|D1 9 Qe Y<|Dd<|?_
  obtain rfl := rt h
  exact Zi (Zn Y (.two (rb Y)<|rb Y))
 ·
  refine K3 1 4 8 Y<|Tr<|R2 Qz Y<|Ra Y<|Za<|K4 1 4 8 19 Y<|If h Y (fun h=>?_) fun h=>?_
  ·
   refine K1 4 Y<|Td md0<|D1 0 Zr Y<|D2 1 JV Y<|bE h fun q3 h_q3 h=>Dq 2 Y (Jb (ov Y) (ov Y) h_q3)<|D2 3 JV Y<|Dq 4 Y (ZlY (ov Y) Y)<|D1 5 Zr Y<|D2 6 JV Y<|bE h fun q4 h_q4 h=>Dq 7 Y (Jb (ov Y) (ov Y) h_q4)<|D2 8 JV Y<|D1 9 Qe Y<|D1 10 Qe Y<|Dd<|?_
   obtain rfl := rt h
   exact Zi (Zn Y (.two (rb Y)<|rb Y))
  ·
   refine K3 1 4 8 Y<|Tr<|R2 Qz Y<|Ra Y<|Za<|K4 1 4 8 30 Y<|If h Y (fun h=>?_) fun h=>?_
   ·
    refine K1 4 Y<|Tr<|Rm Y<|bE h fun q5 h_q5 h=>Rq Y (ZeB (ov Y) (ov Y) h_q5)<|bE h fun y2 h_y2 h=>Rq Y (Zl (ZgX h_y2)<|.cons (ov Y) (.b Y) .nil)<|R2 JV Y<|Ra Y<|Ra Y<|Za<|?_
    obtain rfl := rt h
    exact Zi (Zn Y (.two (rb Y)<|rb Y))
   ·
    refine K3 1 4 8 Y<|Tr<|R2 Qz Y<|Ra Y<|Za<|K3 1 4 36 Y<|If h Y (fun h=>?_) fun h=>?_
    ·
     refine K1 1 Y<|Td md0<|Dq 0 Y (Zf (ov Y) Zbr)<|Dq 1 Y (Zb (ov Y) ZfZ Y)<|Dq 2 Y (Zd7 (X8 (ov Y) tZ_9) Zdd<|ZbB _ _)<|D2 3 JV Y<|D1 4 Qe Y<|D1 5 Qe Y<|Dd<|?_
     obtain rfl := rt h
     exact Zi (Zn Y (.two (rb Y)<|rb Y))
    ·
     refine Ze<|K1 4 Y<|Td md0<|D1 0 Zr Y<|bE h fun q6 h_q6 h=>Dq 1 Y (Jb (ov Y) (ov Y) h_q6)<|D2 2 JV Y<|D1 3 Qe Y<|D1 4 Qe Y<|Dd<|?_
     obtain rfl := rt h
     exact Zi (Zn Y (.two (rb Y)<|rb Y))
theorem ZhM {p : api_Param} {v : Int} {r : Int} (h : Zcc p v = some r) :
 CSpec Tryd.prog gl0 23 [.agg [.str p.Name, .int .i64 p.Kind, .sl 42 (List.map R42 p.Parts), .int .i64 p.First, .int .i64 p.Every, .int .i64 p.Times, .int .i64 p.Step, .sl 9 (List.map R9 p.Names)], .int .i64 v] (.int .i64 r) := by
 unfold Zcc at h
 replace h := Z0 h
 refine So Tryd.func23 Y fun w0 A=>Tr<|Rq Y (Qa (cva<|ov Y) Y tZ_46 Y)<|Ra Y<|Za<|K2 1 2 Y<|Tr<|Rq Y (Zk (ov Y) Q5 Y Y)<|bE h fun y h_y h=>Rq Y (Zl (Zbf h_y)<|.cons (ov Y) (.aggB Y) .nil)<|Ra Y<|Za<|Zh<|K3 1 2 5 Y<|Tr<|Rq Y (Zf (ov Y) ZaY)<|Rq Y (Zb (ov Y) tS3 Y)<|Za<|Zd<|K3 1 5 11 Y<|Tr<|R2 Qz Y<|Ra Y<|Za<|K4 1 5 11 12 Y<|If h Y (fun h=>?_) fun h=>?_
 ·
  refine K2 1 5 Y<|Tr<|Rm Y<|R2 ZH Y<|Za<|K3 1 5 15 Y<|If h Y (fun h=>?_) fun h=>?_
  ·
   refine K2 1 5 Y<|Tr<|Rm Y<|bE h fun q h_q h=>Rq Y (Jb (ov Y) (ov Y) h_q)<|Rm Y<|R2 ZT Y<|Ra Y<|Za<|?_
   obtain rfl := rt h
   exact Zi (Zn Y (.one<|rb Y))
  ·
   refine Ze<|K1 1 Y<|Tr<|Rm Y<|Ra Y<|Za<|?_
   obtain rfl := rt h
   exact Zi (Zn Y (.one<|rb Y))
 ·
  refine K3 1 5 11 Y<|Tr<|R2 Qz Y<|Ra Y<|Za<|K4 1 5 11 20 Y<|If h Y (fun h=>?_) fun h=>?_
  ·
   refine K2 1 5 Y<|Tr<|Rm Y<|R2 ZH Y<|Za<|K3 1 5 23 Y<|If h Y (fun h=>?_) fun h=>?_
   ·
    refine K2 1 5 Y<|Tr<|Rm Y<|R2 JV Y<|bE h fun q2 h_q2 h=>Rq Y (Jb (ov Y) (ov Y) h_q2)<|Rm Y<|R2 JV Y<|Ra Y<|Za<|?_
    obtain rfl := rt h
    exact Zi (Zn Y (.one<|rb Y))
   ·
    refine Ze<|K1 1 Y<|Tr<|Rm Y<|Ra Y<|Za<|?_
    obtain rfl := rt h
    exact Zi (Zn Y (.one<|rb Y))
  ·
   refine K3 1 5 11 Y<|Tr<|R2 Qz Y<|Ra Y<|Za<|K3 1 5 29 Y<|If h Y (fun h=>?_) fun h=>?_
   ·
    refine K2 1 5 Y<|Tr<|Ra Y<|Za<|I1 (fun raw=>⟨[(6, .int .i64 raw)], []⟩) h (fun h=>?_) fun raw h=>?_
    ·
     refine Tr<|Ra Y<|Za<|Zd<|?_
     obtain ⟨r1, hl1, ho1⟩ := Qt h
     refine L3 (fun v2 raw2 k=>⟨[(1, .int .i64 v2), (5, .int .i64 y), (6, .int .i64 raw2), (7, .int .i64 k)], []⟩) hl1 (ES []) fun n1 v2 raw2 k h=>?_
     unfold Xx at h
     refine Zh<|Tr<|Rm Y<|Rm Y<|R2 ZH Y<|Za<|K5 1 5 6 7 33 Y<|If h Y (fun h=>?_) fun h=>?_
     ·
      exact Ze<|Zh<|Zd<|K4 1 5 6 7 Y<|Tr<|Rm Y<|Rm Y<|bE h fun q3 h_q3 h=>Rq Y (Je (ov Y) (ov Y) h_q3)<|Rm Y<|bE h fun q4 h_q4 h=>Rq Y (Jb (ov Y) (ov Y) h_q4)<|R2 ZT Y<|Ra Y<|Za<|K4 1 5 6 7 Y<|Zt<|Rm Y<|bE h fun q5 h_q5 h=>Rq Y (ZeB (ov Y) (ov Y) h_q5)<|Ra Y<|Za<|K4 1 5 6 7 Y<|Zt<|Rm Y<|R2 ZT Y<|Ra Y<|Za<|⟨_, h, ES []⟩
     ·
      refine Zz<|?_
      replace h := lx h ▸ ho1
      exact ⟨_, h, ES []⟩
    ·
     refine Tr<|Rm Y<|Ra Y<|Za<|?_
     obtain rfl := rt h
     exact Zi (Zn Y (.one<|rb Y))
   ·
    refine Ze<|K1 1 Y<|Tr<|Rm Y<|Ra Y<|Za<|?_
    obtain rfl := rt h
    exact Zi (Zn Y (.one<|rb Y))
theorem Zi3 {m : api_Map} {l : List Int} {r : (Vector (List Int) 16) × Int} (h : Zdj m l = some r) :
 CSpec Tryd.prog gl0 10 [.agg [.int .i64 m.Version, .sl 46 (List.map R46 m.Params)], .sl 3 (List.map R3 l)] (.tuple [.agg (List.map C25 r.1.toList), .int .i64 r.2]) := by
 unfold Zdj at h
 replace h := Z0 h
 refine So Tryd.func10 Y fun w0 A=>Tr<|Rq Y (Qa (cva<|ov Y) Y tZ_24 Y)<|Rx Y (Zq (row := [_, _, _, _, _, _, _, _, _, _, _, _, _, _, _, _]) 0 Y Zjb Y tZ_35)<|Ra Y<|Za<|K3 1 2 4 Y<|Tr<|Rx Y (Zq (row := [_, _, _, _, _, _, _, _, _, _, _, _, _, _, _, _]) 1 Y Zjb Y tZ_35)<|Za<|Zh<|Tr<|Rq Y (Zk (ov Y) ZgF Y Y)<|bE h fun y h_y h=>Rq Y (Zl (Zh6 h_y)<|.cons (ov Y) (.aggB Y) .nil)<|Rm Y<|Rq Y (ZK (ov Y) Y)<|Rq Y (ZK (ov Y) Y)<|Ra Y<|Ra Y<|Za<|K5 1 2 4 6 8 Y<|Tr<|Rm Y<|R2 QZ Y<|Za<|K6 1 2 4 6 8 28 Y<|If h Y (fun h=>?_) fun h=>?_
 ·
  refine K3 4 6 8 Y<|Tr<|Rq Y (ZC (ov Y) Y Y Y Za0 Y Y)<|Rm Y<|Rx Y (Zj (ov Y) (ov Y) (Zg Za0 Y) Y Y Y (Nat.le_of_ble_eq_true Y) (Zc Y) Y)<|Ra Y<|Za<|?_
  obtain rfl := rt h
  exact Zi (Zn Y (.two (.agg Y Y Y Y Za0 Y Y<|pwZ (m := 16) (f := C25) Y Y)<|rb Y))
 ·
  refine Ze<|K4 1 2 4 6 Y<|Tr<|Rq Y (Zk (ov Y) ZgF Y Y)<|bE h fun y2 h_y2 h=>Rq Y (Zl (Zgh h_y2)<|.cons (ov Y) (.aggB Y) .nil)<|Ra Y<|Za<|Zh<|K5 1 2 4 6 9 Y<|Tr<|Rm Y<|Rl tZ_3 X3 Y<|Rm Y<|Rl tZ_58 ZbZ Y<|R2 QZ Y<|Za<|K6 1 2 4 6 9 37 Y<|If h Y (fun h=>?_) fun h=>?_
  ·
   refine K2 4 6 Y<|Tr<|Rq Y (ZC (ov Y) Y Y Y Za0 Y Y)<|Rx Y (Zj (ov Y) (ov Y) (Zg Za0 Y) Y Y Y (Nat.le_of_ble_eq_true Y) (Zc Y) Y)<|Ra Y<|Za<|?_
   obtain rfl := rt h
   exact Zi (Zn Y (.two (.agg Y Y Y Y Za0 Y Y<|pwZ (m := 16) (f := C25) Y Y)<|rb Y))
  ·
   refine Ze<|J0 (fun j => (.inr j)) ⟨[(1, .sl 3 (List.map R3 l)), (2, .rp [.int .i64 m.Version, .sl 46 (List.map R46 m.Params)] 0), (4, .ptr 0 1 0 0), (6, .ptr 1 1 0 0), (9, .sl 58 (List.map R58 y2))], [some ⟨35, [[.nils, .nils, .nils, .nils, .nils, .nils, .nils, .nils, .nils, .nils, .nils, .nils, .nils, .nils, .nils, .nils]]⟩, some ⟨35, [[.nils, .nils, .nils, .nils, .nils, .nils, .nils, .nils, .nils, .nils, .nils, .nils, .nils, .nils, .nils, .nils]]⟩]⟩ h (fun h=>?_) fun h=>?_
   ·
    refine K5 1 2 4 6 9 Y<|Tr<|Rm Y<|Rl tZ_58 ZbZ Y<|Rm Y<|Za<|Zd<|?_
    obtain ⟨r1, hl1, ho1⟩ := Qt h
    refine L1 (fun i=>⟨[(1, .sl 3 (List.map R3 l)), (2, .rp [.int .i64 m.Version, .sl 46 (List.map R46 m.Params)] 0), (4, .ptr 0 1 0 0), (6, .ptr 1 1 0 0), (9, .sl 58 (List.map R58 y2)), (39, .sl 58 (List.map R58 y2)), (40, .int .i64 (y2.length : Int)), (41, .int .i64 i)], [some ⟨35, [[.nils, .nils, .nils, .nils, .nils, .nils, .nils, .nils, .nils, .nils, .nils, .nils, .nils, .nils, .nils, .nils]]⟩, some ⟨35, [[.nils, .nils, .nils, .nils, .nils, .nils, .nils, .nils, .nils, .nils, .nils, .nils, .nils, .nils, .nils, .nils]]⟩]⟩) hl1 (ES [some 0, some 1] (hhp := .cons Y (Zaz (by exact tZ_35.symm) Y)<|.cons Y (Zaz (by exact tZ_35.symm) Y) .nil)) fun n1 i h=>?_
    unfold Zad at h
    refine Tr<|R2 ZH Y<|Za<|Zh<|If h Y (fun h=>?_) fun h=>?_
    ·
     refine Ze<|Zh<|Zd<|K8 1 2 4 6 9 39 40 41 Y<|Tr<|Rm Y<|bE h fun x h_x h=>Rq Y (ZE (ov Y) (ov Y) ZbZ h_x)<|Rq Y (Zk (ov Y) ZdO Y Y)<|Rx Y (Zq (row := [_, _, _, _]) 2 Y ZhG Y tZ_58)<|Ra Y<|Rx Y (Zj (ov Y) (ov Y) (Zg ZdO Y) Y Y Y (Nat.le_of_ble_eq_true Y) (Zc Y) Y)<|Za<|K10 1 2 4 6 9 10 11 39 40 41 Y<|Tr<|Rq Y (Zf (ov Y) J9)<|Rq Y (Zb (ov Y) Zd9 Y)<|Rq Y (Zp (ov Y) Y Y Zgu)<|Rq Y (Zm (ov Y) Y Y Y tS3 Y)<|bE h fun x2 h_x2 h=>Rq Y (ZE (ov Y) (ov Y) Za9 h_x2)<|Rq Y (Zk (ov Y) Q5 Y Y)<|bE h fun y3 h_y3 h=>Rq Y (Zl (Zhn h_y3)<|.cons (ov Y) (.aggB Y) .nil)<|Rm Y<|Rq Y (ZK (ov Y) Y)<|Rq Y (ZK (ov Y) Y)<|Ra Y<|Ra Y<|Za<|K11 1 2 4 6 9 10 12 13 39 40 41 Y<|Tr<|Rm Y<|Rm Y<|bE h fun x3 h_x3 h=>Rq Y (ZE (ov Y) (ov Y) X3 h_x3)<|Rq Y (Zb (ov Y) tS3 Y)<|Rm Y<|Rm Y<|bE h fun y4 h_y4 h=>Rq Y (Zl (Qn h_y4)<|.cons (ov Y) (.b Y)<|.cons (ov Y) (.b Y)<|.cons (ov Y) (.b Y) .nil)<|Za<|K9 1 2 4 6 9 39 40 41 62 Y<|If h Y (fun h=>?_) fun h=>?_
     ·
      refine K2 4 6 Y<|Tr<|Rq Y (ZC (ov Y) Y Y Y Za0 Y Y)<|Rx Y (Zj (ov Y) (ov Y) (Zg Za0 Y) Y Y Y (Nat.le_of_ble_eq_true Y) (Zc Y) Y)<|Ra Y<|Za<|?_
      replace h := lx h ▸ ho1
      obtain rfl := rt h
      exact Zi (Zn Y (.two (.agg Y Y Y Y Za0 Y Y<|pwZ (m := 16) (f := C25) Y Y)<|rb Y))
     ·
      exact Ze<|K8 1 2 4 6 9 39 40 41 Y<|Zt<|R2 ZT Y<|Rm Y<|Za<|⟨_, h, ES [some 0, some 1] (hhp := .cons Y (Zaz (by exact tZ_35.symm) Y)<|.cons Y (Zaz (by exact tZ_35.symm) Y) .nil)⟩
    ·
     refine Zz<|?_
     replace h := lx h ▸ ho1
     exact ⟨(), h, ES [some 0, some 1] (hhp := .cons Y (Zaz (by exact tZ_35.symm) Y)<|.cons Y (Zaz (by exact tZ_35.symm) Y) .nil)⟩
   ·
    replace h := elr h
    replace h := t0i h
    refine I1 (fun out=>⟨[(1, .sl 3 (List.map R3 l)), (2, .rp [.int .i64 m.Version, .sl 46 (List.map R46 m.Params)] 0), (4, .ptr 0 1 0 0), (6, .ptr 1 1 0 0), (9, .sl 58 (List.map R58 y2))], [some ⟨35, [[.nils, .nils, .nils, .nils, .nils, .nils, .nils, .nils, .nils, .nils, .nils, .nils, .nils, .nils, .nils, .nils]]⟩, some ⟨35, [(List.map (osF 3 R3) out.toList)]⟩]⟩) h (fun h=>?_) fun out h=>?_
    ·
     refine Tr<|Rm Y<|Za<|Zd<|?_
     obtain ⟨r2, hl2, ho2⟩ := Qt h
     refine L2 (fun out2 i2=>⟨[(1, .sl 3 (List.map R3 l)), (2, .rp [.int .i64 m.Version, .sl 46 (List.map R46 m.Params)] 0), (4, .ptr 0 1 0 0), (6, .ptr 1 1 0 0), (9, .sl 58 (List.map R58 y2)), (65, .int .i64 i2)], [some ⟨35, [[.nils, .nils, .nils, .nils, .nils, .nils, .nils, .nils, .nils, .nils, .nils, .nils, .nils, .nils, .nils, .nils]]⟩, some ⟨35, [(List.map (osF 3 R3) out2.toList)]⟩]⟩) hl2 (ES [some 0, some 1] (hhp := .cons Y (Zaz (by exact tZ_35.symm) Y)<|.cons Y (Zpl Y tZ_35) .nil)) fun n2 out2 i2 h=>?_
     unfold ZdD at h
     refine Tr<|R2 ZH Y<|Za<|Zh<|If h Y (fun h=>?_) fun h=>?_
     ·
      exact Ze<|Zh<|Zd<|K6 1 2 4 6 9 65 Y<|Tr<|Rm Y<|Ra Y<|Za<|K7 1 2 4 6 9 14 65 Y<|Tr<|Rm Y<|bE h fun l2 h_l2 h=>Rx Y (ZkL [none] (r := 2) (f := R3) (z0 := 0) Y (ov Y) (ov Y) X3 Y tZ3 Y Y h_l2)<|bE h fun x4 h_x4 h=>Rq Y (Ql (ov Y) (ov Y) ZdF Y Y h_x4)<|Rx Y (Zj (ov Y) (ov Y) (ZA ZdJ) Y Y Y (arB h_x4) (Zc Y)<|ZlN h_x4)<|ZdP (Ent.absorbA (r := 1) (q := 2) Y h_x4 Y Y Y)<|Za<|K7 1 2 4 6 9 14 65 Y<|bE h fun l3 h_l3 h=>Zip (Ent.focusA (r := 1) Y h_l3 D3)<|ZdZ (cw := md0) (by kernel_rfl)<|D1 0 Zr Y<|bE h fun x5 h_x5 h=>Dq 1 Y (Ql (ov Y) (ov Y) ZdF Y Y h_x5)<|Dq 2 Y (Zm (ov Y) Y Y Y ZdJ<|ZiC h_l3)<|Dq 3 Y (Zf (ov Y) Zht)<|Dq 4 Y (Zb (ov Y) tS3 Y)<|bE h fun x6 h_x6 h=>Dq 5 Y (Zgr (ov Y) (ov Y) X3 Y Y h_x6)<|Do 6 Y (Zfz (u' := m.Version) (ov Y) (ov Y) (ZA tS3) Y Y h_x6 Y (Zc Y) Y)<|ZgY (by kernel_rfl) (Ent.absorbA (r := 1) (q := 3) Y h_l3 Y ((List.length_set ..).trans Y) Y)<|K6 1 2 4 6 9 65 Y<|Zt<|R2 ZT Y<|Rm Y<|Za<|⟨_, h, ES [some 0, some 1] (hhp := .cons Y (Zaz (by exact tZ_35.symm) Y)<|.cons Y (ZeX tZ_35 D3) .nil)⟩
     ·
      refine Zz<|?_
      replace h := lx h ▸ ho2
      exact ⟨_, h, ES [some 0, some 1] (hhp := .cons Y (Zaz (by exact tZ_35.symm) Y)<|.cons Y (ZeX tZ_35 D3) .nil)⟩
    ·
     refine I1 (fun out3=>⟨[(4, .ptr 0 1 0 0), (6, .ptr 1 1 0 0)], [some ⟨35, [[.nils, .nils, .nils, .nils, .nils, .nils, .nils, .nils, .nils, .nils, .nils, .nils, .nils, .nils, .nils, .nils]]⟩, some ⟨35, [(List.map (osF 3 R3) out3.toList)]⟩]⟩) h (fun h=>?_) fun out3 h=>?_
     ·
      refine Tr<|Rm Y<|Rl tZ_58 ZbZ Y<|Rm Y<|Za<|Zd<|?_
      obtain ⟨r3, hl3, ho3⟩ := Qt h
      refine L2 (fun out4 i3=>⟨[(1, .sl 3 (List.map R3 l)), (2, .rp [.int .i64 m.Version, .sl 46 (List.map R46 m.Params)] 0), (4, .ptr 0 1 0 0), (6, .ptr 1 1 0 0), (78, .sl 58 (List.map R58 y2)), (79, .int .i64 (y2.length : Int)), (80, .int .i64 i3)], [some ⟨35, [[.nils, .nils, .nils, .nils, .nils, .nils, .nils, .nils, .nils, .nils, .nils, .nils, .nils, .nils, .nils, .nils]]⟩, some ⟨35, [(List.map (osF 3 R3) out4.toList)]⟩]⟩) hl3 (ES [some 0, some 1] (hhp := .cons Y (Zaz (by exact tZ_35.symm) Y)<|.cons Y (ZeX tZ_35 D3) .nil)) fun n3 out4 i3 h=>?_
      unfold Zaj at h
      refine Tr<|R2 ZH Y<|Za<|Zh<|If h Y (fun h=>?_) fun h=>?_
      ·
       refine Ze<|I1 (fun out5=>⟨[(1, .sl 3 (List.map R3 l)), (2, .rp [.int .i64 m.Version, .sl 46 (List.map R46 m.Params)] 0), (4, .ptr 0 1 0 0), (6, .ptr 1 1 0 0), (78, .sl 58 (List.map R58 y2)), (79, .int .i64 (y2.length : Int)), (80, .int .i64 i3)], [some ⟨35, [[.nils, .nils, .nils, .nils, .nils, .nils, .nils, .nils, .nils, .nils, .nils, .nils, .nils, .nils, .nils, .nils]]⟩, some ⟨35, [(List.map (osF 3 R3) out5.toList)]⟩]⟩) h (fun h=>?_) fun out5 h=>?_
       ·
        refine Zd<|K7 1 2 4 6 78 79 80 Y<|Tr<|Rm Y<|bE h fun x7 h_x7 h=>Rq Y (ZE (ov Y) (ov Y) ZbZ h_x7)<|Rq Y (Zk (ov Y) ZdO Y Y)<|Rx Y (Zq (row := [_, _, _, _]) 2 Y ZhG Y tZ_58)<|Ra Y<|Rx Y (Zj (ov Y) (ov Y) (Zg ZdO Y) Y Y Y (Nat.le_of_ble_eq_true Y) (Zc Y) Y)<|Za<|K9 1 2 4 6 15 16 78 79 80 Y<|Tr<|Rq Y (Zf (ov Y) J9)<|Rq Y (Zb (ov Y) Zd9 Y)<|Rq Y (Zp (ov Y) Y Y Zgu)<|Rq Y (Zm (ov Y) Y Y Y tS3 Y)<|bE h fun x8 h_x8 h=>Rq Y (ZE (ov Y) (ov Y) Za9 h_x8)<|Rq Y (Zk (ov Y) Q5 Y Y)<|Rx Y (Zq (row := [_, _, _, _, _, _, _, _]) 3 Y Zhh Y tZ_46)<|Rx Y (Zj (ov Y) (ov Y) (Zg Q5 Y) Y Y Y (Nat.le_of_ble_eq_true Y) (Zc Y) Y)<|Za<|K10 1 2 4 6 15 16 17 78 79 80 Y<|Td md0<|Dq 0 Y (ZC (ov Y) Y Y Y Q5 Y Y)<|D1 1 Zr Y<|D1 2 Zr Y<|bE h fun x9 h_x9 h=>Dq 3 Y (ZE (ov Y) (ov Y) X3 h_x9)<|Dq 4 Y (Zb (ov Y) tS3 Y)<|bE h fun y5 h_y5 h=>Dq 5 Y (Zl (ZhM h_y5)<|.cons (ov Y) (.aggB Y)<|.cons (ov Y) (.b Y) .nil)<|Dq 6 Y (ZC (ov Y) Y Y Y Q5 Y Y)<|bE h fun y6 h_y6 h=>Dq 7 Y (Zl (Zbf h_y6)<|.cons (ov Y) (.aggB Y) .nil)<|D1 8 Qe Y<|D1 9 Qe Y<|Dd<|K10 1 2 4 6 16 18 19 78 79 80 Y<|Tr<|Rq Y (Zp (ov Y) Y Y Zc4)<|Rq Y (Zm (ov Y) Y Y Y Zh0 Y)<|Rl tZ_65 Zf1 Y<|Rm Y<|Za<|Zd<|?_
        obtain ⟨r4, hl4, ho4⟩ := Qt h
        refine L3 (fun out6 left i4=>⟨[(1, .sl 3 (List.map R3 l)), (2, .rp [.int .i64 m.Version, .sl 46 (List.map R46 m.Params)] 0), (4, .ptr 0 1 0 0), (6, .ptr 1 1 0 0), (18, .int .i64 y5), (19, .int .i64 left), (78, .sl 58 (List.map R58 y2)), (79, .int .i64 (y2.length : Int)), (80, .int .i64 i3), (100, .sl 65 (List.map R65 x7.Places)), (101, .int .i64 (x7.Places.length : Int)), (102, .int .i64 i4)], [some ⟨35, [[.nils, .nils, .nils, .nils, .nils, .nils, .nils, .nils, .nils, .nils, .nils, .nils, .nils, .nils, .nils, .nils]]⟩, some ⟨35, [(List.map (osF 3 R3) out6.toList)]⟩]⟩) hl4 (ES [some 0, some 1] (hhp := .cons Y (Zaz (by exact tZ_35.symm) Y)<|.cons Y (ZeX tZ_35 D3) .nil)) fun n4 out6 left i4 h=>?_
        unfold Zbw at h
        refine Tr<|R2 ZH Y<|Za<|Zh<|If h Y (fun h=>?_) fun h=>?_
        ·
         exact Ze<|Zh<|Zd<|K12 1 2 4 6 18 19 78 79 80 100 101 102 Y<|Tr<|bE h fun x10 h_x10 h=>Rq Y (ZE (ov Y) (ov Y) Zf1 h_x10)<|Rq Y (Zk (ov Y) ZgE Y Y)<|Rx Y (Zq (row := [_, _, _, _]) 2 Y Zjz Y tZ_65)<|Rx Y (Zj (ov Y) (ov Y) (Zg ZgE Y) Y Y Y (Nat.le_of_ble_eq_true Y) (Zc Y) Y)<|Za<|XJ (kc 1 Y<|kc 2 Y<|kc 4 Y<|kc 6 Y<|kc 18 Y<|kc 19 Y<|kc 21 Y<|kc 78 Y<|kc 79 Y<|kc 80 Y<|kc 100 Y<|kc 101 Y<|kc 102 Y kn) Y<|Tr<|Rm Y<|Rq Y (Zp (ov Y) Y Y Zea)<|Rq Y (Zm (ov Y) Y Y Y tS3 Y)<|R2 JV Y<|Ra Y<|Za<|XJ (kc 1 Y<|kc 2 Y<|kc 4 Y<|kc 6 Y<|kc 18 Y<|kc 19 Y<|kc 21 Y<|kc 78 Y<|kc 79 Y<|kc 80 Y<|kc 100 Y<|kc 101 Y<|kc 102 Y kn) Y<|bE h fun l4 h_l4 h=>Zip (Ent.focusA (r := 1) Y h_l4 D3)<|ZdZ (cw := md0) (by kernel_rfl)<|Dq 0 Y (Zp (ov Y) Y Y ZhA)<|Dq 1 Y (Zm (ov Y) Y Y Y tS3 Y)<|bE h fun x11 h_x11 h=>Dq 2 Y (Ql (ov Y) (ov Y) ZdF Y Y h_x11)<|Dq 3 Y (Zm (ov Y) Y Y Y ZdJ<|ZiC h_l4)<|Dq 4 Y (Zp (ov Y) Y Y Zhb)<|Dq 5 Y (Zm (ov Y) Y Y Y tS3 Y)<|D2 6 JV Y<|bE h fun x12 h_x12 h=>Dq 7 Y (Zgr (ov Y) (ov Y) X3 Y Y h_x12)<|Dq 8 Y (Zjl (ov Y) Y Y h_x12 tS3 Y)<|D1 9 Zr Y<|D1 10 Zr Y<|bE h fun q h_q h=>Dq 11 Y (ZdH (ov Y) (ov Y) h_q)<|Dq 12 Y (Zp (ov Y) Y Y Zea)<|Dq 13 Y (Zm (ov Y) Y Y Y tS3 Y)<|bE h fun q2 h_q2 h=>Dq 14 Y (Jb (ov Y) (ov Y) h_q2)<|bE h fun q3 h_q3 h=>Dq 15 Y (Je (ov Y) (ov Y) h_q3)<|Dq 16 Y (Zp (ov Y) Y Y Zgp)<|Dq 17 Y (Zm (ov Y) Y Y Y tS3 Y)<|bE h fun q4 h_q4 h=>Dq 18 Y (Jb (ov Y) (ov Y) h_q4)<|D2 19 ZT Y<|bE h fun x13 h_x13 h=>Dq 20 Y (Zgr (ov Y) (ov Y) X3 Y Y h_x13)<|Do 21 Y (Zfz (u' := (i64 (x12 + q4))) (ov Y) (ov Y) (ZA tS3) Y Y h_x13 Y (Zc Y) Y)<|ZgY (by kernel_rfl) (Ent.absorbA (r := 1) (q := 3) Y h_l4 Y ((List.length_set ..).trans Y) Y)<|K12 1 2 4 6 18 19 78 79 80 100 101 102 Y<|Zt<|R2 ZT Y<|Rm Y<|Za<|⟨_, h, ES [some 0, some 1] (hhp := .cons Y (Zaz (by exact tZ_35.symm) Y)<|.cons Y (ZeX tZ_35 D3) .nil)⟩
        ·
         refine Zz<|?_
         replace h := lx h ▸ ho4
         exact ⟨_, h, ES [some 0, some 1] (hhp := .cons Y (Zaz (by exact tZ_35.symm) Y)<|.cons Y (ZeX tZ_35 D3) .nil)⟩
       ·
        exact Zt<|R2 ZT Y<|Rm Y<|Za<|⟨_, h, ES [some 0, some 1] (hhp := .cons Y (Zaz (by exact tZ_35.symm) Y)<|.cons Y (ZeX tZ_35 D3) .nil)⟩
      ·
       refine Zz<|?_
       replace h := lx h ▸ ho3
       exact ⟨_, h, ES [some 0, some 1] (hhp := .cons Y (Zaz (by exact tZ_35.symm) Y)<|.cons Y (ZeX tZ_35 D3) .nil)⟩
     ·
      refine Tr<|ZdP (Ent.meltA (r := 1) (f := C25) Y tZ_35 (fun _=>Y) D3)<|Rq Y (ZC (ov Y) Y Y Y Za0 arW arL)<|Rx Y (Zj (ov Y) (ov Y) (Zg Za0 arL) Y Y Y (QF (Zo Y) arL) (Zc<|arC fun _ => Y)<|Qo<|Eq.trans Y<|Eq.symm arL)<|Ra Y<|Za<|?_
      obtain rfl := rt h
      exact Zi (Zn Y (.two (.agg Y Y Y Y Za0 (ZY<|Zo arL) arL (pwB<|arD fun _ => Y) (hns := (nsM fun _ => Y)))<|rb Y))
theorem Zjt {n : Int} {r : Bool} (h : Zd3 n = some r) :
 CSpec Tryd.prog gl0 80 [.int .i64 n] (.bool r) := by
 unfold Zd3 at h
 replace h := Z0 h
 refine So Tryd.func80 Y fun w0 A=>Tr<|Ra Y<|Za<|K1 0 Y<|Tr<|Ra Y<|Za<|I1 (fun ones=>⟨[(3, .int .i64 ones)], []⟩) h (fun h=>?_) fun ones h=>?_
 ·
  refine Zd<|?_
  obtain ⟨r1, hl1, ho1⟩ := Qt h
  refine L2 (fun n2 ones2=>⟨[(0, .int .i64 n2), (3, .int .i64 ones2)], []⟩) hl1 (ES []) fun n1 n2 ones2 h=>?_
  unfold ZcY at h
  refine Zh<|Tr<|Rm Y<|R2 X0 Y<|Za<|K3 0 3 5 Y<|If h Y (fun h=>?_) fun h=>?_
  ·
   exact Ze<|Zh<|Zd<|K2 0 3 Y<|Zt<|Rm Y<|Rm Y<|bE h fun q h_q h=>Rq Y (Je (ov Y) (ov Y) h_q)<|R2 ZT Y<|Ra Y<|Za<|K2 0 3 Y<|Zt<|Rm Y<|bE h fun q2 h_q2 h=>Rq Y (ZeB (ov Y) (ov Y) h_q2)<|Ra Y<|Za<|⟨_, h, ES []⟩
  ·
   refine Zz<|?_
   replace h := lx h ▸ ho1
   exact ⟨_, h, ES []⟩
 ·
  refine Tr<|Rm Y<|bE h fun q3 h_q3 h=>Rq Y (Je (ov Y) (ov Y) h_q3)<|R2 Qz Y<|Ra Y<|Za<|?_
  obtain rfl := rt h
  exact Zi (Zn Y (.one<|rb Y))
theorem Zcw {data : Int} {r : Int} (h : Zab data = some r) :
 CSpec Tryd.prog gl0 59 [.int .i64 data] (.int .i64 r) := by
 unfold Zab at h
 replace h := Z0 h
 refine So Tryd.func59 Y fun w0 A=>Tr<|Ra Y<|Za<|Zh<|K1 0 Y<|Tr<|Rm Y<|bE h fun y h_y h=>Rq Y (Zl (Zjt h_y)<|.cons (ov Y) (.b Y) .nil)<|Za<|K2 0 4 Y<|If h Y (fun h=>?_) fun h=>?_
 ·
  refine K1 0 Y<|Tr<|Rm Y<|Ra Y<|Za<|?_
  obtain rfl := rt h
  exact Zi (Zn Y (.one<|rb Y))
 ·
  refine Ze<|K1 0 Y<|Tr<|Rm Y<|R2 ZT Y<|Ra Y<|Za<|?_
  obtain rfl := rt h
  exact Zi (Zn Y (.one<|rb Y))
theorem Zf8 {f : Vector Int 64} {r : Int} (h : ZaB f = some r) :
 CSpec Tryd.prog gl0 61 [.agg (List.map C26 f.toList)] (.int .i64 r) := by
 unfold ZaB at h
 replace h := Z0 h
 refine So Tryd.func61 Y fun w0 A=>Tr<|Rq Y (Qa (cva<|ov Y) arL tZ_28<|arD fun _ => Y)<|Ra Y<|Za<|K2 1 2 Y<|Tr<|bE h fun x h_x h=>Rq Y (Zc1 (ov Y) (ov Y) ZaF h_x)<|Rq Y (Zb (ov Y) ZbO<|XW<|J4 (o := 0) (o' := ((Int.toNat 1) * 1)) (Zo arL)<|ZaG h_x)<|Rq Y (Zap (ov Y) Zfp tI3 Y)<|bE h fun q h_q h=>Rq Y (Je (ov Y) (ov Y) h_q)<|bE h fun x2 h_x2 h=>Rq Y (Zc1 (ov Y) (ov Y) ZaF h_x2)<|Rq Y (Zb (ov Y) ZbO<|XW<|J4 (o := 0) (o' := ((Int.toNat 2) * 1)) (Zo arL)<|ZaG h_x2)<|Rq Y (Zap (ov Y) Zfp tI3 Y)<|bE h fun q2 h_q2 h=>Rq Y (Je (ov Y) (ov Y) h_q2)<|R2 ZhK Y<|R2 ZT Y<|Ra Y<|Za<|?_
 obtain rfl := rt h
 exact Zi (Zn Y (.one<|rb Y))
theorem Zhr {number : Int} {r : Int} (h : Zcf number = some r) :
 CSpec Tryd.prog gl0 60 [.int .i64 number] (.int .i64 r) := by
 unfold Zcf at h
 replace h := Z0 h
 refine So Tryd.func60 Y fun w0 A=>Tr<|Ra Y<|Za<|Tr<|R_q (.agg<|List.map C3 (#v[583, 1464, 2631, 3512] : Vector Int 4).toList) Y (Zbg (ys := [_, _, _, _]) ZnQ Zo9 (.cons (cvs (ov Y)<|Zs Y)<|.cons (cvs (ov Y)<|Zs Y)<|.cons (cvs (ov Y)<|Zs Y)<|.cons (cvs (ov Y)<|Zs Y) .nil) Y)<|Rm Y<|bE h fun q h_q h=>Rq Y (Je (ov Y) (ov Y) h_q)<|bE h fun x h_x h=>Rq Y (Zgx (ov Y) (ov Y) ZnQ tS3 h_x)<|Ra Y<|Za<|?_
 obtain rfl := rt h
 exact Zi (Zn Y (.one<|rb Y))
theorem Zjc {f : Vector Int 64} {r : Int} (h : Zd4 f = some r) :
 CSpec Tryd.prog gl0 62 [.agg (List.map C26 f.toList)] (.int .i64 r) := by
 unfold Zd4 at h
 replace h := Z0 h
 refine So Tryd.func62 Y fun w0 A=>Tr<|Rq Y (Qa (cva<|ov Y) arL tZ_28<|arD fun _ => Y)<|Ra Y<|Za<|K1 1 Y<|Tr<|Ra Y<|Za<|I1 (fun x=>⟨[(3, .int .i64 x)], []⟩) h (fun h=>?_) fun x h=>?_
 ·
  refine Tr<|Ra Y<|Za<|Zd<|?_
  obtain ⟨r1, hl1, ho1⟩ := Qt h
  refine L2 (fun x2 i=>⟨[(1, .rp (List.map C26 f.toList) 0), (3, .int .i64 x2), (4, .int .i64 i)], []⟩) hl1 (ES []) fun n1 x2 i h=>?_
  unfold Zb9 at h
  refine Zh<|Tr<|Rm Y<|R2 Ze1 Y<|Za<|K4 1 3 4 6 Y<|If h Y (fun h=>?_) fun h=>?_
  ·
   exact Ze<|Zh<|Zd<|K3 1 3 4 Y<|Zt<|Rm Y<|Rm Y<|bE h fun x3 h_x3 h=>Rq Y (Zc1 (ov Y) (ov Y) ZaF h_x3)<|Rq Y (Zb (ov Y) ZbO<|XW<|J4 (o := 0) (o' := (i.toNat * 1)) (Zo arL)<|ZaG h_x3)<|Rq Y (Zap (ov Y) Zfp tI3 Y)<|bE h fun q h_q h=>Rq Y (Je (ov Y) (ov Y) h_q)<|R2 ZiN Y<|Ra Y<|Za<|K3 1 3 4 Y<|Zt<|Rm Y<|R2 ZT Y<|Ra Y<|Za<|⟨_, h, ES []⟩
  ·
   refine Zz<|?_
   replace h := lx h ▸ ho1
   exact ⟨_, h, ES []⟩
 ·
  refine Tr<|Rm Y<|Ra Y<|Za<|?_
  obtain rfl := rt h
  exact Zi (Zn Y (.one<|rb Y))
theorem Zh8 {f : Vector Int 64} {r : Int} (h : ZcG f = some r) :
 CSpec Tryd.prog gl0 81 [.agg (List.map C26 f.toList)] (.int .i64 r) := by
 unfold ZcG at h
 replace h := Z0 h
 refine So Tryd.func81 Y fun w0 A=>Tr<|Rq Y (Qa (cva<|ov Y) arL tZ_28<|arD fun _ => Y)<|Ra Y<|Za<|K1 1 Y<|Tr<|Ra Y<|Za<|I1 (fun rest=>⟨[(3, .int .i64 rest)], []⟩) h (fun h=>?_) fun rest h=>?_
 ·
  refine Tr<|Ra Y<|Za<|Zd<|?_
  obtain ⟨r1, hl1, ho1⟩ := Qt h
  refine L2 (fun rest2 i=>⟨[(1, .rp (List.map C26 f.toList) 0), (3, .int .i64 rest2), (4, .int .i64 i)], []⟩) hl1 (ES []) fun n1 rest2 i h=>?_
  unfold ZaI at h
  refine Zh<|Tr<|Rm Y<|R2 ZH Y<|Za<|K4 1 3 4 7 Y<|If h Y (fun h=>?_) fun h=>?_
  ·
   refine Ze<|Zh<|Zd<|K3 1 3 4 Y<|Tr<|Ra Y<|Za<|I1 (fun bit=>⟨[(1, .rp (List.map C26 f.toList) 0), (3, .int .i64 rest2), (4, .int .i64 i), (5, .int .i64 bit)], []⟩) h (fun h=>?_) fun bit h=>?_
   ·
    refine Tr<|Rm Y<|R2 ZH Y<|Za<|K5 1 3 4 5 11 Y<|If h Y (fun h=>?_) fun h=>?_
    ·
     exact K4 1 3 4 5 Y<|Zt<|Rm Y<|bE h fun q h_q h=>Rq Y (ZeB (ov Y) (ov Y) h_q)<|bE h fun x h_x h=>Rq Y (Zc1 (ov Y) (ov Y) ZaF h_x)<|Rq Y (Zb (ov Y) ZbO<|XW<|J4 (o := 0) (o' := (q.toNat * 1)) (Zo arL)<|ZaG h_x)<|Rq Y (Zap (ov Y) Zfp tI3 Y)<|Rm Y<|bE h fun q2 h_q2 h=>Rq Y (Je (ov Y) (ov Y) h_q2)<|R2 JV Y<|bE h fun q3 h_q3 h=>Rq Y (ZdH (ov Y) (ov Y) h_q3)<|R2 Zck Y<|Ra Y<|Za<|⟨_, h, ES []⟩
    ·
     exact Ze<|⟨_, h, ES []⟩
   ·
    refine Tr<|Rm Y<|R2 ZhK Y<|Rm Y<|R2 ZT Y<|Ra Y<|Za<|K3 1 3 4 Y<|Tr<|Rm Y<|R2 ZbG Y<|Za<|K4 1 3 4 27 Y<|If h Y (fun h=>?_) fun h=>?_
    ·
     exact K3 1 3 4 Y<|Zt<|Rm Y<|R2 ZiN Y<|Ra Y<|Za<|K3 1 3 4 Y<|Zt<|Rm Y<|R2 ZT Y<|Ra Y<|Za<|⟨_, h, ES []⟩
    ·
     exact Ze<|K3 1 3 4 Y<|Zt<|Rm Y<|R2 ZT Y<|Ra Y<|Za<|⟨_, h, ES []⟩
  ·
   refine Zz<|?_
   replace h := lx h ▸ ho1
   exact ⟨_, h, ES []⟩
 ·
  refine Tr<|Rm Y<|Ra Y<|Za<|?_
  obtain rfl := rt h
  exact Zi (Zn Y (.one<|rb Y))
theorem ZgR {f : Vector Int 64} {r : (Vector Int 64)} (h : Zbl f = some r) :
 CSpec Tryd.prog gl0 63 [.agg (List.map C26 f.toList)] (.agg (List.map C26 r.toList)) := by
 unfold Zbl at h
 replace h := Z0 h
 refine So Tryd.func63 Y fun w0 A=>Tr<|Rx Y (ZnC 0 Y (ov Y) ZaC arL)<|Rx Y (Zq (row := (List.map C26 (Vector.replicate 64 0).toList)) 1 Y Zgy Y tZ_28)<|Za<|K2 1 2 Y<|Tr<|Rq Y (ZC (ov Y) Y Y Y ZaC (ZY<|Zo arL) arL (hns := (nsM fun _ => Y)))<|bE h fun y h_y h=>Rq Y (Zl (Zh8 h_y)<|.cons (ov Y) (.aggB<|arD fun _ => Y) .nil)<|Ra Y<|Za<|K3 1 2 3 Y<|Tr<|Rm Y<|bE h fun q h_q h=>Rq Y (ZeB (ov Y) (ov Y) h_q)<|bE h fun y2 h_y2 h=>Rq Y (Zl (Zcw h_y2)<|.cons (ov Y) (.b Y) .nil)<|Rq Y (Zap (ov Y) tI3 Zfp Y)<|Rm Y<|bE h fun q2 h_q2 h=>Rq Y (Je (ov Y) (ov Y) h_q2)<|bE h fun y3 h_y3 h=>Rq Y (Zl (Zcw h_y3)<|.cons (ov Y) (.b Y) .nil)<|Rq Y (Zap (ov Y) tI3 Zfp Y)<|bE h fun x h_x h=>Rq Y (Ql (ov Y) (ov Y) ZaF Y Y h_x)<|Rx Y (Zj (ov Y) (ov Y) (ZA ZbO) Y Y Y (arB h_x) (Zc Y)<|arS h_x)<|bE h fun x2 h_x2 h=>Rq Y (Ql (ov Y) (ov Y) ZaF Y Y h_x2)<|Rx Y (Zj (ov Y) (ov Y) (ZA ZbO) Y Y Y (arB h_x2) (Zc Y)<|arS h_x2)<|Za<|K2 1 2 Y<|Tr<|Rq Y (ZC (ov Y) Y Y Y ZaC (ZY<|Zo arL) arL (hns := (nsM fun _ => Y)))<|Rx Y (Zj (ov Y) (ov Y) (Zg ZaC arL) Y Y Y (QF (Zo arL) arL) (Zc<|arC fun _ => Y)<|Qo<|Eq.trans arL<|Eq.symm arL)<|Za<|?_
 obtain rfl := rt h
 exact Zi (Zn Y (.one<|.agg Y Y Y Y ZaC (ZY<|Zo arL) arL (pwB<|arD fun _ => Y) (hns := (nsM fun _ => Y))))
theorem Zhd {f : Vector Int 64} {r : (Vector Int 64)} (h : Zb8 f = some r) :
 CSpec Tryd.prog gl0 25 [.agg (List.map C26 f.toList)] (.agg (List.map C26 r.toList)) := by
 unfold Zb8 at h
 replace h := Z0 h
 refine So Tryd.func25 Y fun w0 A=>Tr<|Rx Y (ZnC 0 Y (ov Y) ZaC arL)<|Rx Y (Zq (row := (List.map C26 (Vector.replicate 64 0).toList)) 1 Y Zgy Y tZ_28)<|Za<|I1 (fun f2=>⟨[(1, .ptr 0 1 0 0), (2, .ptr 1 1 0 0)], [some ⟨28, [(List.map C26 f2.toList)]⟩, some ⟨28, [(List.map C26 (Vector.replicate 64 0).toList)]⟩]⟩) h (fun h=>?_) fun f2 h=>?_
 ·
  refine K2 1 2 Y<|Tr<|Ra Y<|Za<|Zd<|?_
  obtain ⟨r1, hl1, ho1⟩ := Qt h
  refine L2 (fun f3 i=>⟨[(1, .ptr 0 1 0 0), (2, .ptr 1 1 0 0), (3, .int .i64 i)], [some ⟨28, [(List.map C26 f3.toList)]⟩, some ⟨28, [(List.map C26 (Vector.replicate 64 0).toList)]⟩]⟩) hl1 (ES [some 0, some 1]) fun n1 f3 i h=>?_
  unfold X6 at h
  refine Zh<|Tr<|Rm Y<|R2 Ze1 Y<|Za<|K4 1 2 3 5 Y<|If h Y (fun h=>?_) fun h=>?_
  ·
   exact Ze<|Zh<|Zd<|K3 1 2 3 Y<|Zt<|Rm Y<|Rm Y<|bE h fun x h_x h=>Rq Y (Ql (ov Y) (ov Y) ZaF Y Y h_x)<|Rq Y (Zm (ov Y) Y Y Y ZbO<|XW<|J4 (o := 0) (o' := (i.toNat * 1)) (Zo arL)<|ZaG h_x)<|Rq Y (Zap (ov Y) Zfp tI3 Y)<|bE h fun q h_q h=>Rq Y (Je (ov Y) (ov Y) h_q)<|bE h fun y h_y h=>Rq Y (Zl (Zcw h_y)<|.cons (ov Y) (.b Y) .nil)<|Rq Y (Zap (ov Y) tI3 Zfp Y)<|bE h fun x2 h_x2 h=>Rq Y (Ql (ov Y) (ov Y) ZaF Y Y h_x2)<|Rx Y (Zj (ov Y) (ov Y) (ZA ZbO) Y Y Y (arB h_x2) (Zc Y)<|arS h_x2)<|Za<|K3 1 2 3 Y<|Zt<|Rm Y<|R2 ZT Y<|Ra Y<|Za<|⟨_, h, ES [some 0, some 1]⟩
  ·
   refine Zz<|?_
   replace h := lx h ▸ ho1
   exact ⟨_, h, ES [some 0, some 1]⟩
 ·
  refine Tr<|Rq Y (ZC (ov Y) Y Y Y ZaC (ZY<|Zo arL) arL (hns := (nsM fun _ => Y)))<|bE h fun y2 h_y2 h=>Rq Y (Zl (Zf8 h_y2)<|.cons (ov Y) (.aggB<|arD fun _ => Y) .nil)<|bE h fun y3 h_y3 h=>Rq Y (Zl (Zhr h_y3)<|.cons (ov Y) (.b Y) .nil)<|Rq Y (Zap (ov Y) tI3 Zfp Y)<|bE h fun x3 h_x3 h=>Rq Y (Ql (ov Y) (ov Y) ZaF Y Y h_x3)<|Rx Y (Zj (ov Y) (ov Y) (ZA ZbO) Y Y Y (arB h_x3) (Zc Y)<|arS h_x3)<|Za<|K2 1 2 Y<|Tr<|Rq Y (ZC (ov Y) Y Y Y ZaC (ZY<|Zo arL) arL (hns := (nsM fun _ => Y)))<|bE h fun y4 h_y4 h=>Rq Y (Zl (Zjc h_y4)<|.cons (ov Y) (.aggB<|arD fun _ => Y) .nil)<|bE h fun y5 h_y5 h=>Rq Y (Zl (Zcw h_y5)<|.cons (ov Y) (.b Y) .nil)<|Rq Y (Zap (ov Y) tI3 Zfp Y)<|bE h fun x4 h_x4 h=>Rq Y (Ql (ov Y) (ov Y) ZaF Y Y h_x4)<|Rx Y (Zj (ov Y) (ov Y) (ZA ZbO) Y Y Y (arB h_x4) (Zc Y)<|arS h_x4)<|Za<|K2 1 2 Y<|Tr<|Rq Y (ZC (ov Y) Y Y Y ZaC (ZY<|Zo arL) arL (hns := (nsM fun _ => Y)))<|bE h fun y6 h_y6 h=>Rq Y (Zl (ZgR h_y6)<|.cons (ov Y) (.aggB<|arD fun _ => Y) .nil)<|Rx Y (Zj (ov Y) (ov Y) (Zg ZaC arL) Y Y Y (QF (Zo arL) arL) (Zc<|arC fun _ => Y)<|Qo<|Eq.trans arL<|Eq.symm arL)<|Za<|?_
  obtain rfl := rt h
  exact Zi (Zn Y (.one<|.agg Y Y Y Y ZaC (ZY<|Zo arL) arL (pwB<|arD fun _ => Y) (hns := (nsM fun _ => Y))))
theorem Zjk {number : Int} {data : List Int} {r : (Vector Int 64) × Int} (h : Zd5 number data = some r) :
 CSpec Tryd.prog gl0 12 [.int .i64 number, .sl 3 (List.map R3 data)] (.tuple [.agg (List.map C26 r.1.toList), .int .i64 r.2]) := by
 unfold Zd5 at h
 replace h := Z0 h
 refine So Tryd.func12 Y fun w0 A=>Tr<|Rx Y (Zq (row := (List.map C26 (Vector.replicate 64 0).toList)) 0 Y Zgy Y tZ_28)<|Ra Y<|Za<|Zh<|K3 0 1 4 Y<|Tr<|Rm Y<|R2 ZH Y<|Rm Y<|Rq Y (.guarded ((decide (number < 0)) == false) Y Y Y Y fun h => Zr<|ov Y)<|Rq Y (.guarded ((decide (number < 0)) == false) Y Y Y Y fun h => ZbG (ow Y h)<|ov Y)<|Rq Y (XX (ov Y) fun hp=>ow Y<|gF hp)<|Za<|K4 0 1 4 14 Y<|If h Y (fun h=>?_) fun h=>?_
 ·
  refine K1 4 Y<|Tr<|R_q (.agg<|List.map C26 (#v[0, 0, 0, 0, 0, 0, 0, 0, 0, 0, 0, 0, 0, 0, 0, 0, 0, 0, 0, 0, 0, 0, 0, 0, 0, 0, 0, 0, 0, 0, 0, 0, 0, 0, 0, 0, 0, 0, 0, 0, 0, 0, 0, 0, 0, 0, 0, 0, 0, 0, 0, 0, 0, 0, 0, 0, 0, 0, 0, 0, 0, 0, 0, 0] : Vector Int 64).toList) Y (Zbg (ys := [_, _, _, _, _, _, _, _, _, _, _, _, _, _, _, _, _, _, _, _, _, _, _, _, _, _, _, _, _, _, _, _, _, _, _, _, _, _, _, _, _, _, _, _, _, _, _, _, _, _, _, _, _, _, _, _, _, _, _, _, _, _, _, _]) ZaF Zgy .nil Y)<|Rx Y (Zj (ov Y) (ov Y) (Zg ZaC arL) Y Y Y (QF (Zo arL) arL) (Zc<|arC fun _ => Y)<|Qo<|Eq.trans arL<|Eq.symm arL)<|Ra Y<|Za<|?_
  obtain rfl := rt h
  exact Zi (Zn Y (.two (.agg Y Y Y Y ZaC (ZY<|Zo arL) arL (pwB<|arD fun _ => Y) (hns := (nsM fun _ => Y)))<|rb Y))
 ·
  refine Ze<|Zh<|K3 0 1 4 Y<|Tr<|Rm Y<|Rl tZ_3 X3 Y<|R2 QZ Y<|Za<|K4 0 1 4 18 Y<|If h Y (fun h=>?_) fun h=>?_
  ·
   refine K1 4 Y<|Tr<|R_q (.agg<|List.map C26 (#v[0, 0, 0, 0, 0, 0, 0, 0, 0, 0, 0, 0, 0, 0, 0, 0, 0, 0, 0, 0, 0, 0, 0, 0, 0, 0, 0, 0, 0, 0, 0, 0, 0, 0, 0, 0, 0, 0, 0, 0, 0, 0, 0, 0, 0, 0, 0, 0, 0, 0, 0, 0, 0, 0, 0, 0, 0, 0, 0, 0, 0, 0, 0, 0] : Vector Int 64).toList) Y (Zbg (ys := [_, _, _, _, _, _, _, _, _, _, _, _, _, _, _, _, _, _, _, _, _, _, _, _, _, _, _, _, _, _, _, _, _, _, _, _, _, _, _, _, _, _, _, _, _, _, _, _, _, _, _, _, _, _, _, _, _, _, _, _, _, _, _, _]) ZaF Zgy .nil Y)<|Rx Y (Zj (ov Y) (ov Y) (Zg ZaC arL) Y Y Y (QF (Zo arL) arL) (Zc<|arC fun _ => Y)<|Qo<|Eq.trans arL<|Eq.symm arL)<|Ra Y<|Za<|?_
   obtain rfl := rt h
   exact Zi (Zn Y (.two (.agg Y Y Y Y ZaC (ZY<|Zo arL) arL (pwB<|arD fun _ => Y) (hns := (nsM fun _ => Y)))<|rb Y))
  ·
   refine Ze<|K3 0 1 4 Y<|Tr<|R_q (.agg<|List.map C26 (#v[0, 0, 0, 0, 0, 0, 0, 0, 0, 0, 0, 0, 0, 0, 0, 0, 0, 0, 0, 0, 0, 0, 0, 0, 0, 0, 0, 0, 0, 0, 0, 0, 0, 0, 0, 0, 0, 0, 0, 0, 0, 0, 0, 0, 0, 0, 0, 0, 0, 0, 0, 0, 0, 0, 0, 0, 0, 0, 0, 0, 0, 0, 0, 0] : Vector Int 64).toList) Y (Zbg (ys := [_, _, _, _, _, _, _, _, _, _, _, _, _, _, _, _, _, _, _, _, _, _, _, _, _, _, _, _, _, _, _, _, _, _, _, _, _, _, _, _, _, _, _, _, _, _, _, _, _, _, _, _, _, _, _, _, _, _, _, _, _, _, _, _]) ZaF Zgy .nil Y)<|Rx Y (Zq (row := (List.map C26 (Vector.replicate 64 0).toList)) 1 Y Zgy Y tZ_28)<|Rx Y (Zj (ov Y) (ov Y) (Zg ZaC arL) Y Y Y (QF (Zo arL) arL) (Zc<|arC fun _ => Y)<|Qo<|Eq.trans arL<|Eq.symm arL)<|Za<|K4 0 1 4 6 Y<|Tr<|Rm Y<|bE h fun q h_q h=>Rq Y (Je (ov Y) (ov Y) h_q)<|Rq Y (Zap (ov Y) tI3 Zfp Y)<|Rm Y<|bE h fun q2 h_q2 h=>Rq Y (ZeB (ov Y) (ov Y) h_q2)<|Rq Y (Zap (ov Y) tI3 Zfp Y)<|bE h fun x h_x h=>Rq Y (Ql (ov Y) (ov Y) ZaF Y Y h_x)<|Rx Y (Zj (ov Y) (ov Y) (ZA ZbO) Y Y Y (arB h_x) (Zc Y)<|arS h_x)<|bE h fun x2 h_x2 h=>Rq Y (Ql (ov Y) (ov Y) ZaF Y Y h_x2)<|Rx Y (Zj (ov Y) (ov Y) (ZA ZbO) Y Y Y (arB h_x2) (Zc Y)<|arS h_x2)<|Za<|J1 (fun j => (.inr j)) (fun f=>⟨[(4, .ptr 0 1 0 0), (6, .ptr 1 1 0 0)], [some ⟨28, [(List.map C26 (Vector.replicate 64 0).toList)]⟩, some ⟨28, [(List.map C26 f.toList)]⟩]⟩) h (fun h=>?_) fun f h=>?_
   ·
    refine K3 1 4 6 Y<|Tr<|Rm Y<|Rl tZ_3 X3 Y<|Rm Y<|Za<|Zd<|?_
    obtain ⟨r1, hl1, ho1⟩ := Qt h
    refine L2 (fun f2 i=>⟨[(4, .ptr 0 1 0 0), (6, .ptr 1 1 0 0), (29, .sl 3 (List.map R3 data)), (30, .int .i64 (data.length : Int)), (31, .int .i64 i)], [some ⟨28, [(List.map C26 (Vector.replicate 64 0).toList)]⟩, some ⟨28, [(List.map C26 f2.toList)]⟩]⟩) hl1 (ES [some 0, some 1]) fun n1 f2 i h=>?_
    unfold Za3 at h
    refine Tr<|R2 ZH Y<|Za<|Zh<|If h Y (fun h=>?_) fun h=>?_
    ·
     refine Ze<|Zh<|Zd<|K5 4 6 29 30 31 Y<|Tr<|Rm Y<|bE h fun x3 h_x3 h=>Rq Y (ZE (ov Y) (ov Y) X3 h_x3)<|Rq Y (Zb (ov Y) tS3 Y)<|Ra Y<|Ra Y<|Za<|Zh<|K7 4 6 7 8 29 30 31 Y<|Tr<|Rm Y<|R2 ZH Y<|Rm Y<|Rq Y (.guarded ((decide (x3 < 0)) == false) Y Y Y Y fun h => Zr<|ov Y)<|Rq Y (.guarded ((decide (x3 < 0)) == false) Y Y Y Y fun h => X0 (ow Y h)<|ov Y)<|Rq Y (XX (ov Y) fun hp=>ow Y<|gF hp)<|Za<|K8 4 6 7 8 29 30 31 41 Y<|If h Y (fun h=>?_) fun h=>?_
     ·
      refine K1 4 Y<|Tr<|R_q (.agg<|List.map C26 (#v[0, 0, 0, 0, 0, 0, 0, 0, 0, 0, 0, 0, 0, 0, 0, 0, 0, 0, 0, 0, 0, 0, 0, 0, 0, 0, 0, 0, 0, 0, 0, 0, 0, 0, 0, 0, 0, 0, 0, 0, 0, 0, 0, 0, 0, 0, 0, 0, 0, 0, 0, 0, 0, 0, 0, 0, 0, 0, 0, 0, 0, 0, 0, 0] : Vector Int 64).toList) Y (Zbg (ys := [_, _, _, _, _, _, _, _, _, _, _, _, _, _, _, _, _, _, _, _, _, _, _, _, _, _, _, _, _, _, _, _, _, _, _, _, _, _, _, _, _, _, _, _, _, _, _, _, _, _, _, _, _, _, _, _, _, _, _, _, _, _, _, _]) ZaF Zgy .nil Y)<|Rx Y (Zj (ov Y) (ov Y) (Zg ZaC arL) Y Y Y (QF (Zo arL) arL) (Zc<|arC fun _ => Y)<|Qo<|Eq.trans arL<|Eq.symm arL)<|Ra Y<|Za<|?_
      replace h := lx h ▸ ho1
      obtain rfl := rt h
      exact Zi (Zn Y (.two (.agg Y Y Y Y ZaC (ZY<|Zo arL) arL (pwB<|arD fun _ => Y) (hns := (nsM fun _ => Y)))<|rb Y))
     ·
      exact Ze<|K7 4 6 7 8 29 30 31 Y<|Zt<|Rm Y<|R2 ZT Y<|Rm Y<|Rq Y (Zap (ov Y) tI3 Zfp Y)<|bE h fun x4 h_x4 h=>Rq Y (Ql (ov Y) (ov Y) ZaF Y Y h_x4)<|Rx Y (Zj (ov Y) (ov Y) (ZA ZbO) Y Y Y (arB h_x4) (Zc Y)<|arS h_x4)<|Za<|K5 4 6 29 30 31 Y<|Zt<|R2 ZT Y<|Rm Y<|Za<|⟨_, h, ES [some 0, some 1]⟩
    ·
     refine Zz<|?_
     replace h := lx h ▸ ho1
     exact ⟨_, h, ES [some 0, some 1]⟩
   ·
    replace h := elr h
    replace h := t1i h
    refine Tr<|Rq Y (ZC (ov Y) Y Y Y ZaC (ZY<|Zo arL) arL (hns := (nsM fun _ => Y)))<|bE h fun y h_y h=>Rq Y (Zl (Zhd h_y)<|.cons (ov Y) (.aggB<|arD fun _ => Y) .nil)<|Rx Y (Zj (ov Y) (ov Y) (Zg ZaC arL) Y Y Y (QF (Zo arL) arL) (Zc<|arC fun _ => Y)<|Qo<|Eq.trans arL<|Eq.symm arL)<|Ra Y<|Za<|?_
    obtain rfl := rt h
    exact Zi (Zn Y (.two (.agg Y Y Y Y ZaC (ZY<|Zo arL) arL (pwB<|arD fun _ => Y) (hns := (nsM fun _ => Y)))<|rb Y))
theorem Zh7 {m : api_Map} {first : Int} {l : List Int} {r : (Vector (Vector Int 64) 16) × Int} (h : ZcE m first l = some r) :
 CSpec Tryd.prog gl0 5 [.agg [.int .i64 m.Version, .sl 46 (List.map R46 m.Params)], .int .i64 first, .sl 3 (List.map R3 l)] (.tuple [.agg (r.1.toList.flatMap R28), .int .i64 r.2]) := by
 unfold ZcE at h
 replace h := Z0 h
 refine So Tryd.func5 Y fun w0 A=>Tr<|Rq Y (Qa (cva<|ov Y) Y tZ_24 Y)<|Rx Y (Zq (row := ((Vector.replicate 16 (Vector.replicate 64 0)).toList.flatMap R28)) 0 Y Zll (by kernel_rfl)<|by exact Eq.symm (Eq.trans (b := 1024) (ZM (fun x => (D28 x).1.trans tZ_28) rfl) tZ_29.symm))<|Ra Y<|Za<|K4 1 2 3 6 Y<|Tr<|Rx Y (Zq (row := ((Vector.replicate 16 (Vector.replicate 64 0)).toList.flatMap R28)) 1 Y Zll (by kernel_rfl)<|by exact Eq.symm (Eq.trans (b := 1024) (ZM (fun x => (D28 x).1.trans tZ_28) rfl) tZ_29.symm))<|Za<|Tr<|Rq Y (Zk (ov Y) ZgF Y Y)<|Rm Y<|bE h fun y h_y h=>Rq Y (Zl (Zi3 h_y)<|.cons (ov Y) (.aggB Y)<|.cons (ov Y) (.b Y) .nil)<|Rm Y<|Rq Y (ZK (ov Y) Y)<|Rq Y (ZK (ov Y) Y)<|Rx Y (Zq (row := [_, _, _, _, _, _, _, _, _, _, _, _, _, _, _, _]) 2 Y Zjb Y tZ_35)<|Rx Y (Zj (ov Y) (ov Y) (Zg Za0 arL) Y Y Y (QF (Zo Y) arL) (Zc<|arC fun _ => Y)<|Qo<|Eq.trans Y<|Eq.symm arL)<|Ra Y<|Za<|Zh<|K5 1 6 8 9 10 Y<|Tr<|Rm Y<|R2 QZ Y<|Za<|K6 1 6 8 9 10 19 Y<|If h Y (fun h=>?_) fun h=>?_
 ·
  refine K3 6 8 10 Y<|Tr<|Rq Y (ZC (ov Y) Y Y Y ZbI (ZY<|Zo<|ZM (fun x=>(D28 x).1.trans tZ_28) Y) (ZM (fun x=>(D28 x).1.trans tZ_28) Y) (hns := (Xj (Xq fun x => (D28 x).2))))<|Rm Y<|Rx Y (Zj (ov Y) (ov Y) (Zg ZbI<|ZM (fun x=>(D28 x).1.trans tZ_28) Y) Y Y Y (QF (Zo<|ZM (fun x=>(D28 x).1.trans tZ_28) Y)<|ZM (fun x=>(D28 x).1.trans tZ_28) Y) (Zc<|Zh2 E28)<|Qo<|Eq.trans (ZM (fun x=>(D28 x).1.trans tZ_28) Y)<|Eq.symm<|ZM (fun x=>(D28 x).1.trans tZ_28) Y)<|Ra Y<|Za<|?_
  obtain rfl := rt h
  exact Zi (Zn Y (.two (.agg Y Y Y Y ZbI (ZY<|Zo<|ZM (fun x=>(D28 x).1.trans tZ_28) Y) (ZM (fun x=>(D28 x).1.trans tZ_28) Y) (pwB<|Xq fun x => (D28 x).2) (hns := (Xj (Xq fun x => (D28 x).2))))<|rb Y))
 ·
  refine Ze<|Zh<|K4 1 6 8 9 Y<|Tr<|Rm Y<|bE h fun y2 h_y2 h=>Rq Y (Zl (Qn h_y2)<|.cons (ov Y) (.b Y)<|.cons (ov Y) (.b Y)<|.cons (ov Y) (.b Y) .nil)<|Za<|K5 1 6 8 9 23 Y<|If h Y (fun h=>?_) fun h=>?_
  ·
   refine K2 6 8 Y<|Tr<|Rq Y (ZC (ov Y) Y Y Y ZbI (ZY<|Zo<|ZM (fun x=>(D28 x).1.trans tZ_28) Y) (ZM (fun x=>(D28 x).1.trans tZ_28) Y) (hns := (Xj (Xq fun x => (D28 x).2))))<|Rx Y (Zj (ov Y) (ov Y) (Zg ZbI<|ZM (fun x=>(D28 x).1.trans tZ_28) Y) Y Y Y (QF (Zo<|ZM (fun x=>(D28 x).1.trans tZ_28) Y)<|ZM (fun x=>(D28 x).1.trans tZ_28) Y) (Zc<|Zh2 E28)<|Qo<|Eq.trans (ZM (fun x=>(D28 x).1.trans tZ_28) Y)<|Eq.symm<|ZM (fun x=>(D28 x).1.trans tZ_28) Y)<|Ra Y<|Za<|?_
   obtain rfl := rt h
   exact Zi (Zn Y (.two (.agg Y Y Y Y ZbI (ZY<|Zo<|ZM (fun x=>(D28 x).1.trans tZ_28) Y) (ZM (fun x=>(D28 x).1.trans tZ_28) Y) (pwB<|Xq fun x => (D28 x).2) (hns := (Xj (Xq fun x => (D28 x).2))))<|rb Y))
  ·
   refine Ze<|Zh<|K4 1 6 8 9 Y<|Tr<|Rm Y<|bE h fun q h_q h=>Rq Y (Je (ov Y) (ov Y) h_q)<|R2 QZ Y<|Za<|K5 1 6 8 9 27 Y<|If h Y (fun h=>?_) fun h=>?_
   ·
    refine K2 6 8 Y<|Tr<|Rq Y (ZC (ov Y) Y Y Y ZbI (ZY<|Zo<|ZM (fun x=>(D28 x).1.trans tZ_28) Y) (ZM (fun x=>(D28 x).1.trans tZ_28) Y) (hns := (Xj (Xq fun x => (D28 x).2))))<|Rx Y (Zj (ov Y) (ov Y) (Zg ZbI<|ZM (fun x=>(D28 x).1.trans tZ_28) Y) Y Y Y (QF (Zo<|ZM (fun x=>(D28 x).1.trans tZ_28) Y)<|ZM (fun x=>(D28 x).1.trans tZ_28) Y) (Zc<|Zh2 E28)<|Qo<|Eq.trans (ZM (fun x=>(D28 x).1.trans tZ_28) Y)<|Eq.symm<|ZM (fun x=>(D28 x).1.trans tZ_28) Y)<|Ra Y<|Za<|?_
    obtain rfl := rt h
    exact Zi (Zn Y (.two (.agg Y Y Y Y ZbI (ZY<|Zo<|ZM (fun x=>(D28 x).1.trans tZ_28) Y) (ZM (fun x=>(D28 x).1.trans tZ_28) Y) (pwB<|Xq fun x => (D28 x).2) (hns := (Xj (Xq fun x => (D28 x).2))))<|rb Y))
   ·
    refine Ze<|I1 (fun out=>⟨[(6, .ptr 0 1 0 0), (8, .ptr 1 1 0 0)], [some ⟨29, [((Vector.replicate 16 (Vector.replicate 64 0)).toList.flatMap R28)]⟩, some ⟨29, [(out.toList.flatMap R28)]⟩]⟩) h (fun h=>?_) fun out h=>?_
    ·
     refine K4 1 6 8 9 Y<|Tr<|Rm Y<|Za<|Zd<|?_
     obtain ⟨r1, hl1, ho1⟩ := Qt h
     refine L2 (fun out2 i=>⟨[(1, .int .i64 first), (6, .ptr 0 1 0 0), (8, .ptr 1 1 0 0), (9, .ptr 2 1 0 0), (29, .int .i64 i)], [some ⟨29, [((Vector.replicate 16 (Vector.replicate 64 0)).toList.flatMap R28)]⟩, some ⟨29, [(out2.toList.flatMap R28)]⟩, some ⟨35, [(List.map C25 y.1.toList)]⟩]⟩) hl1 (ES [some 0, some 1, some 2] (hhp := .cons Y (ro1 (by exact Eq.trans (b := 1024) (ZM (fun x => (D28 x).1.trans tZ_28) rfl) tZ_29.symm)<|rld<|Xq fun x => (D28 x).2)<|.cons Y (ro1 (by exact Eq.trans (b := 1024) (ZM (fun x => (D28 x).1.trans tZ_28) rfl) tZ_29.symm)<|rld<|Xq fun x => (D28 x).2)<|.cons Y (ro1 (by exact Eq.trans (b := 16) arL tZ_35.symm)<|rld<|arD fun _ => Y) .nil)) fun n1 out2 i h=>?_
     unfold JE at h
     refine Tr<|R2 ZH Y<|Za<|Zh<|If h Y (fun h=>?_) fun h=>?_
     ·
      exact Ze<|Zh<|Zd<|K5 1 6 8 9 29 Y<|Tr<|Rm Y<|Ra Y<|Za<|K6 1 6 8 9 11 29 Y<|Zt<|Rm Y<|Rm Y<|Rm Y<|R2 ZT Y<|Rm Y<|bE h fun x h_x h=>Rq Y (Ql (ov Y) (ov Y) ZdF Y Y h_x)<|Rq Y (Zm (ov Y) Y Y Y ZdJ<|XW<|J4 (o := 0) (o' := (i.toNat * 1)) (Zo arL)<|ZaG h_x)<|bE h fun y3 h_y3 h=>Rq Y (Zl (Zjk h_y3)<|.cons (ov Y) (.b Y)<|.cons (ov Y) (.b Y) .nil)<|Rm Y<|Rq Y (ZK (ov Y) Y)<|Rq Y (ZK (ov Y) Y)<|bE h fun x2 h_x2 h=>Rq Y (Ql (ov Y) (ov Y) ZoR Y Y h_x2)<|Rx Y (Zj (ov Y) (ov Y) (Zg ZaC arL) Y Y Y (QF (J4 (o := 0) (o' := (i.toNat * 64)) (Zo<|ZM (fun x=>(D28 x).1.trans tZ_28) Y)<|ZnA (fun x=>(D28 x).1.trans tZ_28) h_x2) arL) (Zc<|arC fun _ => Y)<|ZmM<|Zmv (fun x=>(D28 x).1.trans tZ_28) h_x2 (x := y3.1))<|Za<|K5 1 6 8 9 29 Y<|Zt<|R2 ZT Y<|Rm Y<|Za<|⟨_, h, ES [some 0, some 1, some 2] (hhp := .cons Y (ro1 (by exact Eq.trans (b := 1024) (ZM (fun x => (D28 x).1.trans tZ_28) rfl) tZ_29.symm)<|rld<|Xq fun x => (D28 x).2)<|.cons Y (ro1 (by exact Eq.trans (b := 1024) (ZM (fun x => (D28 x).1.trans tZ_28) rfl) tZ_29.symm)<|rld<|Xq fun x => (D28 x).2)<|.cons Y (ro1 (by exact Eq.trans (b := 16) arL tZ_35.symm)<|rld<|arD fun _ => Y) .nil)⟩
     ·
      refine Zz<|?_
      replace h := lx h ▸ ho1
      exact ⟨_, h, ES [some 0, some 1] (hhp := .cons Y (ro1 (by exact Eq.trans (b := 1024) (ZM (fun x => (D28 x).1.trans tZ_28) rfl) tZ_29.symm)<|rld<|Xq fun x => (D28 x).2)<|.cons Y (ro1 (by exact Eq.trans (b := 1024) (ZM (fun x => (D28 x).1.trans tZ_28) rfl) tZ_29.symm)<|rld<|Xq fun x => (D28 x).2) .nil)⟩
    ·
     refine Tr<|Rq Y (ZC (ov Y) Y Y Y ZbI (ZY<|Zo<|ZM (fun x=>(D28 x).1.trans tZ_28) Y) (ZM (fun x=>(D28 x).1.trans tZ_28) Y) (hns := (Xj (Xq fun x => (D28 x).2))))<|Rx Y (Zj (ov Y) (ov Y) (Zg ZbI<|ZM (fun x=>(D28 x).1.trans tZ_28) Y) Y Y Y (QF (Zo<|ZM (fun x=>(D28 x).1.trans tZ_28) Y)<|ZM (fun x=>(D28 x).1.trans tZ_28) Y) (Zc<|Zh2 E28)<|Qo<|Eq.trans (ZM (fun x=>(D28 x).1.trans tZ_28) Y)<|Eq.symm<|ZM (fun x=>(D28 x).1.trans tZ_28) Y)<|Ra Y<|Za<|?_
     obtain rfl := rt h
     exact Zi (Zn Y (.two (.agg Y Y Y Y ZbI (ZY<|Zo<|ZM (fun x=>(D28 x).1.trans tZ_28) Y) (ZM (fun x=>(D28 x).1.trans tZ_28) Y) (pwB<|Xq fun x => (D28 x).2) (hns := (Xj (Xq fun x => (D28 x).2))))<|rb Y))
theorem Zcu {s : List Int} {f : Int → Option Bool} {r : Int} {f_f : FuncId} {f_c : List AV} (f_d : f_c.all datB = true) (f_h : ∀ (z0 : Int) z, f z0 = some z → CSpec Tryd.prog gl0 f_f ([.int .i64 z0] ++ f_c) (.bool z)) (h : Qw s f = some r) :
 CSpec Tryd.prog gl0 64 [.sl 3 (List.map R3 s), .fn f_f f_c] (.int .i64 r) := by
 unfold Qw at h
 replace h := Z0 h
 refine So Tryd.func64 Y fun w0 A=>Tr<|Ra Y<|Za<|J0 (fun j => (.inr j)) ⟨[], []⟩ h (fun h=>?_) fun h=>?_
 ·
  refine K2 0 1 Y<|Tr<|Rm Y<|Rl tZ_3 X3 Y<|Rm Y<|Za<|Zd<|?_
  obtain ⟨r1, hl1, ho1⟩ := Qt h
  refine L1 (fun i=>⟨[(0, .sl 3 (List.map R3 s)), (1, .fn f_f f_c), (7, .int .i64 (s.length : Int)), (8, .int .i64 i)], []⟩) hl1 (ES []<|sd 0 Y Y<|sr 1 Y (rFn<|rld f_d)<|sd 7 Y Y<|sd 8 Y Y sn) fun n1 i h=>?_
  unfold QB at h
  refine Tr<|R2 ZH Y<|Za<|Zh<|If h Y (fun h=>?_) fun h=>?_
  ·
   refine Ze<|Zh<|Zd<|K4 0 1 7 8 Y<|Tr<|Rm Y<|Ra Y<|Za<|K5 0 1 5 7 8 Y<|Tr<|Rm Y<|Rm Y<|Rm Y<|bE h fun x h_x h=>Rq Y (ZE (ov Y) (ov Y) X3 h_x)<|Rq Y (Zb (ov Y) tS3 Y)<|bE h fun y h_y h=>Rq Y (JL (ov Y) f_d (f_h _ _ h_y)<|.cons (ov Y) (.b Y) .nil)<|Za<|K6 0 1 5 7 8 16 Y<|If h Y (fun h=>?_) fun h=>?_
   ·
    refine K1 5 Y<|Tr<|Rm Y<|Ra Y<|Za<|?_
    replace h := lx h ▸ ho1
    obtain rfl := rt h
    exact Zi (Zn Y (.one<|rb Y))
   ·
    exact Ze<|K4 0 1 7 8 Y<|Zt<|R2 ZT Y<|Rm Y<|Za<|⟨_, h, ES []<|sd 0 Y Y<|sr 1 Y (rFn<|rld f_d)<|sd 7 Y Y<|sd 8 Y Y sn⟩
  ·
   refine Zz<|?_
   replace h := lx h ▸ ho1
   exact ⟨(), h, ES []⟩
 ·
  replace h := elr h
  replace h := t0i h
  refine Tr<|Ra Y<|Za<|?_
  obtain rfl := rt h
  exact Zi (Zn Y (.one<|rb Y))
theorem Zb2 {s : List Int} {f : Int → Option Bool} {r : Bool} {f_f : FuncId} {f_c : List AV} (f_d : f_c.all datB = true) (f_h : ∀ (z0 : Int) z, f z0 = some z → CSpec Tryd.prog gl0 f_f ([.int .i64 z0] ++ f_c) (.bool z)) (h : Qf s f = some r) :
 CSpec Tryd.prog gl0 26 [.sl 3 (List.map R3 s), .fn f_f f_c] (.bool r) := by
 unfold Qf at h
 replace h := Z0 h
 refine So Tryd.func26 Y fun w0 A=>Tr<|Ra Y<|Za<|Tr<|Rm Y<|Rm Y<|bE h fun y h_y h=>Rq Y (Zl (Zcu f_d f_h h_y)<|.cons (ov Y) (.b Y)<|.cons (ov Y) (Dat.fnC<|.refl fun x hx => .b<|List.all_eq_true.1 f_d x hx) .nil)<|R2 ZbG Y<|Ra Y<|Za<|?_
 obtain rfl := rt h
 exact Zi (Zn Y (.one<|rb Y))
theorem Zfr {d : Int} {r : Bool} (h : Jw d = some r) :
 CSpec Tryd.prog gl0 27 [.int .i64 d] (.bool r) := by
 unfold Jw at h
 replace h := Z0 h
 refine So Tryd.func27 Y fun w0 A=>Tr<|Ra Y<|Za<|Tr<|Rm Y<|bE h fun y h_y h=>Rq Y (Zl (Z4 h_y)<|.cons (ov Y) (.b Y)<|.cons (ov Y) (.b Y)<|.cons (ov Y) (.b Y) .nil)<|R1 X1 Y<|Ra Y<|Za<|?_
 obtain rfl := rt h
 exact Zi (Zn Y (.one<|rb Y))
theorem ZgV {c_ : api_Cell} {l : Vector (List Int) 16} {r : Int} (h : Zbo c_ l = some r) :
 CSpec Tryd.prog gl0 29 [.agg [.int .i64 c_.Param, .int .i64 c_.Index, .int .i64 c_.Frame, .sl 65 (List.map R65 c_.Places)], .agg (List.map C25 l.toList)] (.int .i64 r) := by
 unfold Zbo at h
 replace h := Z0 h
 refine So Tryd.func29 Y fun w0 A=>Tr<|Rq Y (Qa (cva<|ov Y) Y tZ_58 Y)<|Rq Y (Qa (cva<|ov Y) arL tZ_35<|arD fun _ => Y)<|Ra Y<|Za<|K2 2 3 Y<|Tr<|Ra Y<|Za<|I1 (fun raw=>⟨[(5, .int .i64 raw)], []⟩) h (fun h=>?_) fun raw h=>?_
 ·
  refine Tr<|Rq Y (Zf (ov Y) Zc4)<|Rq Y (Zb (ov Y) Zh0 Y)<|Rl tZ_65 Zf1 Y<|Rm Y<|Za<|Zd<|?_
  obtain ⟨r1, hl1, ho1⟩ := Qt h
  refine L2 (fun raw2 i=>⟨[(3, .rp (List.map C25 l.toList) 0), (5, .int .i64 raw2), (9, .sl 65 (List.map R65 c_.Places)), (10, .int .i64 (c_.Places.length : Int)), (11, .int .i64 i)], []⟩) hl1 (ES []) fun n1 raw2 i h=>?_
  unfold ZaP at h
  refine Tr<|R2 ZH Y<|Za<|Zh<|If h Y (fun h=>?_) fun h=>?_
  ·
   exact Ze<|Zh<|Zd<|K5 3 5 9 10 11 Y<|Tr<|bE h fun x h_x h=>Rq Y (ZE (ov Y) (ov Y) Zf1 h_x)<|Rq Y (Zk (ov Y) ZgE Y Y)<|Rx Y (Zq (row := [_, _, _, _]) 0 Y Zjz Y tZ_65)<|Rx Y (Zj (ov Y) (ov Y) (Zg ZgE Y) Y Y Y (Nat.le_of_ble_eq_true Y) (Zc Y) Y)<|Za<|K6 3 5 7 9 10 11 Y<|ZdZ (cw := md0) (by kernel_rfl)<|D1 0 Zr Y<|Dq 1 Y (Zp (ov Y) Y Y Zea)<|Dq 2 Y (Zm (ov Y) Y Y Y tS3 Y)<|bE h fun q h_q h=>Dq 3 Y (Jb (ov Y) (ov Y) h_q)<|Dq 4 Y (Zp (ov Y) Y Y ZhA)<|Dq 5 Y (Zm (ov Y) Y Y Y tS3 Y)<|bE h fun x2 h_x2 h=>Dq 6 Y (Zc1 (ov Y) (ov Y) ZdF h_x2)<|Dq 7 Y (Zb (ov Y) ZdJ<|XW<|J4 (o := 0) (o' := (x.Frame.toNat * 1)) (Zo arL)<|ZaG h_x2)<|Dq 8 Y (Zp (ov Y) Y Y Zhb)<|Dq 9 Y (Zm (ov Y) Y Y Y tS3 Y)<|D2 10 JV Y<|bE h fun x3 h_x3 h=>Dq 11 Y (ZE (ov Y) (ov Y) X3 h_x3)<|Dq 12 Y (Zb (ov Y) tS3 Y)<|Dq 13 Y (Zp (ov Y) Y Y Zgp)<|Dq 14 Y (Zm (ov Y) Y Y Y tS3 Y)<|bE h fun q2 h_q2 h=>Dq 15 Y (ZdH (ov Y) (ov Y) h_q2)<|Dq 16 Y (Zp (ov Y) Y Y Zea)<|Dq 17 Y (Zm (ov Y) Y Y Y tS3 Y)<|bE h fun q3 h_q3 h=>Dq 18 Y (Jb (ov Y) (ov Y) h_q3)<|D2 19 JV Y<|D2 20 Zck Y<|D2 21 ZjV Y<|D1 22 Qe Y<|Dd<|K5 3 5 9 10 11 Y<|Zt<|R2 ZT Y<|Rm Y<|Za<|⟨_, h, ES []⟩
  ·
   refine Zz<|?_
   replace h := lx h ▸ ho1
   exact ⟨_, h, ES []⟩
 ·
  refine Tr<|Rm Y<|Ra Y<|Za<|?_
  obtain rfl := rt h
  exact Zi (Zn Y (.one<|rb Y))
theorem ZfV {p : api_Param} {raw : Int} {r : Int × Bool} (h : J2 p raw = some r) :
 CSpec Tryd.prog gl0 28 [.agg [.str p.Name, .int .i64 p.Kind, .sl 42 (List.map R42 p.Parts), .int .i64 p.First, .int .i64 p.Every, .int .i64 p.Times, .int .i64 p.Step, .sl 9 (List.map R9 p.Names)], .int .i64 raw] (.tuple [.int .i64 r.1, .bool r.2]) := by
 unfold J2 at h
 replace h := Z0 h
 refine So Tryd.func28 Y fun w0 A=>Tr<|Rq Y (Qa (cva<|ov Y) Y tZ_46 Y)<|Ra Y<|Ra Y<|Za<|K2 1 2 Y<|Tr<|Rq Y (Zk (ov Y) Q5 Y Y)<|bE h fun y h_y h=>Rq Y (Zl (ZcI h_y)<|.cons (ov Y) (.aggB Y) .nil)<|Rq Y (ZlC (ov Y) Znc Y)<|Rm Y<|bE h fun y2 h_y2 h=>Rq Y (JL (ov Y) (((X4 h_y).2)).1 ((((X4 h_y).2)).2 _ _ h_y2)<|.cons (ov Y) (.b Y) .nil)<|Rm Y<|Rq Y (ZK (ov Y) Y)<|Rq Y (ZK (ov Y) Y)<|Ra Y<|Ra Y<|Za<|Zh<|K2 6 7 Y<|Tr<|Rm Y<|R1 X1 Y<|Za<|K2 6 17 Y<|If h Y (fun h=>?_) fun h=>?_
 ·
  refine K0<|Tr<|Ra Y<|Ra Y<|Za<|?_
  obtain rfl := rt h
  exact Zi (Zn Y (.two (rb Y)<|rb Y))
 ·
  refine Ze<|K1 6 Y<|Tr<|Rm Y<|Ra Y<|Ra Y<|Za<|?_
  obtain rfl := rt h
  exact Zi (Zn Y (.two (rb Y)<|rb Y))
theorem Zgg {m : api_Map} {l : Vector (List Int) 16} {r : (List api_Reading) × Int} (h : ZaH m l = some r) :
 CSpec Tryd.prog gl0 13 [.agg [.int .i64 m.Version, .sl 46 (List.map R46 m.Params)], .agg (List.map C25 l.toList)] (.tuple [.sl 51 (List.map R51 r.1), .int .i64 r.2]) := by
 unfold ZaH at h
 replace h := Z0 h
 refine So Tryd.func13 Y fun w0 A=>Tr<|Rq Y (Qa (cva<|ov Y) Y tZ_24 Y)<|Rq Y (Qa (cva<|ov Y) arL tZ_35<|arD fun _ => Y)<|Ra Y<|Ra Y<|Za<|Zh<|K2 2 3 Y<|Tr<|Rq Y (Zk (ov Y) ZgF Y Y)<|bE h fun y h_y h=>Rq Y (Zl (ZdV h_y)<|.cons (ov Y) (.aggB Y) .nil)<|Rm Y<|Rq Y (ZK (ov Y) Y)<|Rq Y (ZK (ov Y) Y)<|Ra Y<|Ra Y<|Za<|K3 2 3 7 Y<|Tr<|Rm Y<|R2 QZ Y<|Za<|K4 2 3 7 23 Y<|If h Y (fun h=>?_) fun h=>?_
 ·
  refine K1 7 Y<|Tr<|Rm Y<|Ra Y<|Ra Y<|Za<|?_
  obtain rfl := rt h
  exact Zi (Zn Y (.two (.tmp Y<|View.nils 51)<|rb Y))
 ·
  refine Ze<|J0 (fun j => (.inr j)) ⟨[(2, .rp [.int .i64 m.Version, .sl 46 (List.map R46 m.Params)] 0), (3, .rp (List.map C25 l.toList) 0)], []⟩ h (fun h=>?_) fun h=>?_
  ·
   refine K2 2 3 Y<|Tr<|Rq Y (Zk (ov Y) Za0 (ZY<|Zo arL) arL)<|Rm Y<|Za<|Zd<|?_
   obtain ⟨r1, hl1, ho1⟩ := Qt h
   refine L1 (fun i=>⟨[(2, .rp [.int .i64 m.Version, .sl 46 (List.map R46 m.Params)] 0), (3, .rp (List.map C25 l.toList) 0), (25, .agg (List.map C25 l.toList)), (26, .int .i64 i)], []⟩) hl1 (ES []) fun n1 i h=>?_
   unfold Zag at h
   refine Tr<|R2 ZH Y<|Za<|Zh<|If h Y (fun h=>?_) fun h=>?_
   ·
    refine Ze<|Zh<|Zd<|K4 2 3 25 26 Y<|Tr<|bE h fun x h_x h=>Rq Y (Zgx (ov Y) (ov Y) ZdF ZdJ h_x)<|Ra Y<|Za<|Zh<|K5 2 3 9 25 26 Y<|Tr<|Rm Y<|Rl tZ_3 X3 Y<|R2 QZ Y<|Za<|K6 2 3 9 25 26 31 Y<|If h Y (fun h=>?_) fun h=>?_
    ·
     refine K0<|Tr<|Ra Y<|Ra Y<|Za<|?_
     replace h := lx h ▸ ho1
     obtain rfl := rt h
     exact Zi (Zn Y (.two (.tmp Y<|View.nils 51)<|rb Y))
    ·
     refine Ze<|K5 2 3 9 25 26 Y<|Tr<|Rm Y<|bE h fun y2 h_y2 h=>Rq Y (Zl (Zb2 Y (fun z0 _ hz=>Zfr hz) h_y2)<|.cons (ov Y) (.b Y)<|.cons (ov Y) .fn .nil)<|Za<|K5 2 3 25 26 33 Y<|If h Y (fun h=>?_) fun h=>?_
     ·
      refine K0<|Tr<|Ra Y<|Ra Y<|Za<|?_
      replace h := lx h ▸ ho1
      obtain rfl := rt h
      exact Zi (Zn Y (.two (.tmp Y<|View.nils 51)<|rb Y))
     ·
      exact Ze<|K4 2 3 25 26 Y<|Zt<|R2 ZT Y<|Rm Y<|Za<|⟨_, h, ES []⟩
   ·
    refine Zz<|?_
    replace h := lx h ▸ ho1
    exact ⟨(), h, ES []⟩
  ·
   replace h := elr h
   replace h := t0i h
   refine J0 (fun j => (.inr j)) ⟨[(2, .rp [.int .i64 m.Version, .sl 46 (List.map R46 m.Params)] 0), (3, .rp (List.map C25 l.toList) 0)], []⟩ h (fun h=>?_) fun h=>?_
   ·
    refine Tr<|Rq Y (Zk (ov Y) Za0 (ZY<|Zo arL) arL)<|Rm Y<|Za<|Zd<|?_
    obtain ⟨r2, hl2, ho2⟩ := Qt h
    refine L1 (fun i2=>⟨[(2, .rp [.int .i64 m.Version, .sl 46 (List.map R46 m.Params)] 0), (3, .rp (List.map C25 l.toList) 0), (35, .agg (List.map C25 l.toList)), (36, .int .i64 i2)], []⟩) hl2 (ES []) fun n2 i2 h=>?_
    unfold Zaa at h
    refine Tr<|R2 ZH Y<|Za<|Zh<|If h Y (fun h=>?_) fun h=>?_
    ·
     refine Ze<|Zh<|Zd<|K4 2 3 35 36 Y<|Tr<|bE h fun x2 h_x2 h=>Rq Y (Zgx (ov Y) (ov Y) ZdF ZdJ h_x2)<|Ra Y<|Za<|K5 2 3 11 35 36 Y<|Td md0<|D1 0 Zr Y<|bE h fun x3 h_x3 h=>Dq 1 Y (ZE (ov Y) (ov Y) X3 h_x3)<|Dq 2 Y (Zb (ov Y) tS3 Y)<|Dq 3 Y (Zf (ov Y) Zht)<|Dq 4 Y (Zb (ov Y) tS3 Y)<|D2 5 QZ Y<|Dd<|K5 2 3 35 36 44 Y<|If h Y (fun h=>?_) fun h=>?_
     ·
      refine K0<|Tr<|Ra Y<|Ra Y<|Za<|?_
      replace h := lx h ▸ ho2
      obtain rfl := rt h
      exact Zi (Zn Y (.two (.tmp Y<|View.nils 51)<|rb Y))
     ·
      exact Ze<|K4 2 3 35 36 Y<|Zt<|R2 ZT Y<|Rm Y<|Za<|⟨_, h, ES []⟩
    ·
     refine Zz<|?_
     replace h := lx h ▸ ho2
     exact ⟨(), h, ES []⟩
   ·
    replace h := elr h
    replace h := t0i h
    refine Tr<|Ra Y<|Za<|I1 (fun out=>⟨[(12, .own 0 out.length)], [some ⟨51, List.map R51 out⟩]⟩) h (fun h=>?_) fun out h=>?_
    ·
     refine Tr<|Rq Y (Zk (ov Y) ZgF Y Y)<|bE h fun y3 h_y3 h=>Rq Y (Zl (ZdS h_y3)<|.cons (ov Y) (.aggB Y) .nil)<|Rl tZ_58 ZbZ Y<|Rm Y<|Za<|Zd<|?_
     obtain ⟨r3, hl3, ho3⟩ := Qt h
     refine L2 (fun out2 i3=>⟨[(2, .rp [.int .i64 m.Version, .sl 46 (List.map R46 m.Params)] 0), (3, .rp (List.map C25 l.toList) 0), (12, .own 0 out2.length), (47, .sl 58 (List.map R58 y3)), (48, .int .i64 (y3.length : Int)), (49, .int .i64 i3)], [some ⟨51, List.map R51 out2⟩]⟩) hl3 (ES [none]) fun n3 out2 i3 h=>?_
     unfold Zan at h
     refine Tr<|R2 ZH Y<|Za<|Zh<|If h Y (fun h=>?_) fun h=>?_
     ·
      exact Ze<|Zh<|Zd<|K6 2 3 12 47 48 49 Y<|Tr<|bE h fun x4 h_x4 h=>Rq Y (ZE (ov Y) (ov Y) ZbZ h_x4)<|Rq Y (Zk (ov Y) ZdO Y Y)<|Rx Y (Zq (row := [_, _, _, _]) 1 Y ZhG Y tZ_58)<|Rx Y (Zj (ov Y) (ov Y) (Zg ZdO Y) Y Y Y (Nat.le_of_ble_eq_true Y) (Zc Y) Y)<|Za<|K7 2 3 12 14 47 48 49 Y<|Td md0<|Dq 0 Y (Zf (ov Y) J9)<|Dq 1 Y (Zb (ov Y) Zd9 Y)<|Dq 2 Y (Zp (ov Y) Y Y Zgu)<|Dq 3 Y (Zm (ov Y) Y Y Y tS3 Y)<|bE h fun x5 h_x5 h=>Dq 4 Y (ZE (ov Y) (ov Y) Za9 h_x5)<|Dq 5 Y (Zk (ov Y) Q5 Y Y)<|Dq 6 Y (ZC (ov Y) Y Y Y ZdO Y Y)<|Dq 7 Y (Zk (ov Y) Za0 (ZY<|Zo arL) arL)<|bE h fun y4 h_y4 h=>Dq 8 Y (Zl (ZgV h_y4)<|.cons (ov Y) (.aggB Y)<|.cons (ov Y) (.aggB<|arD fun _ => Y) .nil)<|bE h fun y5 h_y5 h=>Dq 9 Y (Zl (ZfV h_y5)<|.cons (ov Y) (.aggB Y)<|.cons (ov Y) (.b Y) .nil)<|D1 10 Zr Y<|Dq 11 Y (ZK (ov Y) Y)<|Dq 12 Y (ZK (ov Y) Y)<|D1 13 Qe Y<|D1 14 Qe Y<|Dd<|K9 2 3 12 14 15 16 47 48 49 Y<|Zt<|Rm Y<|Rq Y (Zp (ov Y) Y Y Zgu)<|Rq Y (Zm (ov Y) Y Y Y tS3 Y)<|Rq Y (Zp (ov Y) Y Y Zot)<|Rq Y (Zm (ov Y) Y Y Y tS3 Y)<|Rm Y<|Rm Y<|Rq Y (JP (ys := [_, _, _, _]) ZnF ZnS ZoU (.cons (cvs (ov Y)<|Zs Y)<|.cons (cvs (ov Y)<|Zs Y)<|.cons (cvs (ov Y)<|Zs Y)<|.cons (cvs (ov Y)<|Zs Y) .nil) Y)<|R_q (.sl 51<|List.map R51 ([(api_Reading.mk x4.Param x4.Index y5.1 y5.2)] : List api_Reading)) Y (Zeu Zm5 (.cons (cva<|ov Y) Y (pwD Y) .nil) Y Y)<|bE h fun l2 h_l2 h=>Rx Y (Za8 (ov Y) (X8 (ov Y) tZ_51) Zm5 Y Y Y (fun _=>Zc Y) Y h_l2)<|Ra Y<|Za<|K6 2 3 12 47 48 49 Y<|Zt<|R2 ZT Y<|Rm Y<|Za<|⟨_, h, ES [some 0]⟩
     ·
      refine Zz<|?_
      replace h := lx h ▸ ho3
      exact ⟨_, h, ES [some 0]⟩
    ·
     refine Tr<|Rm Y<|Ra Y<|Ra Y<|Za<|?_
     obtain rfl := rt h
     exact Zi (Zn Y (.two (.tmp Y<|View.ownM Y Y D51)<|rb Y))
theorem ZhD  {r : Bool} (h : Za2  = some r) :
 CSpec Tryd.prog gl0 6 [] (.bool r) := by
 unfold Za2 at h
 replace h := Z0 h
 refine So Tryd.func6 Y fun w0 A=>Tr<|Ra Y<|Za<|K0<|Tr<|Rq Y (JP (ys := [_, _, _, _]) Zpf Zpc Zh9 (.cons (cvs (ov Y)<|Zs Y)<|.cons (cvs (ov Y)<|Zs Y)<|.cons (cvs (ov Y)<|Zs Y) .nil) Y)<|R_q (.sl 42<|List.map R42 ([(api_Part.mk 0 9 2 3)] : List api_Part)) Y (Zeu Zcn (.cons (cva<|ov Y) Y (pwD Y) .nil) Y Y)<|Rq Y (JP (ys := [_, _, _, _, _, _, _, _]) Zo7 Zpd Zhh (.cons (cvs (ov Y)<|Zs Y)<|.cons (cvs (ov Y)<|Zs Y)<|.cons (cvs (ov Y)<|Zs Y)<|.cons (cvs (ov Y)<|Zs Y)<|.cons (cvs (ov Y)<|Zs Y)<|.cons (cvs (ov Y)<|Zs Y)<|.cons (cvs (ov Y)<|Zs Y) .nil) Y)<|R_q (.sl 46<|List.map R46 ([(api_Param.mk [97] 2 ([(api_Part.mk 0 9 2 3)] : List api_Part) 2 8 2 1 [])] : List api_Param)) Y (Zeu Za9 (.cons (cva<|ov Y) Y (.cons (.b Y)<|.cons (.b Y)<|.cons (.b Y)<|.cons (.b Y)<|.cons (.b Y)<|.cons (.b Y)<|.cons (.b Y)<|.cons (Dat.nils _) .nil) .nil) Y Y)<|Rq Y (JP (ys := [_, _]) Zpg Zpj ZoQ (.cons (cvs (ov Y)<|Zs Y)<|.cons (cvs (ov Y)<|Zs Y) .nil) Y)<|Rx Y (Zq (row := [_, _]) 0 Y ZoQ Y tZ_24)<|Rx Y (Zj (ov Y) (ov Y) (Zg ZgF Y) Y Y Y (Nat.le_of_ble_eq_true Y) (Zc Y) Y)<|Za<|K1 1 Y<|Tr<|Rq Y (ZC (ov Y) Y Y Y ZgF Y Y)<|R_q (.sl 3<|List.map R3 ([(-1), 3, 0, (-4)] : List Int)) Y (Zeu X3 (.cons (cvs (ov Y)<|Zs Y) Y (.cons (.b Y) .nil)<|.cons (cvs (ov Y)<|Zs Y) Y (.cons (.b Y) .nil)<|.cons (cvs (ov Y)<|Zs Y) Y (.cons (.b Y) .nil)<|.cons (cvs (ov Y)<|Zs Y) Y (.cons (.b Y) .nil) .nil) Y Y)<|bE h fun y h_y h=>Rq Y (Zl (Zej h_y)<|.cons (ov Y) (.aggB Y)<|.cons (ov Y) (.b Y) .nil)<|Rm Y<|Rq Y (ZK (ov Y) Y)<|Rq Y (ZK (ov Y) Y)<|Rx Y (Zq (row := [_, _, _, _, _, _, _, _, _, _, _, _, _, _, _, _]) 1 Y Zjb Y tZ_35)<|Rx Y (Zj (ov Y) (ov Y) (Zg Za0 arL) Y Y Y (QF (Zo Y) arL) (Zc<|arC fun _ => Y)<|Qo<|Eq.trans Y<|Eq.symm arL)<|Ra Y<|Za<|Zh<|K3 1 2 3 Y<|Tr<|Rm Y<|R2 QZ Y<|Rm Y<|bE h fun x h_x h=>Rq Y (.guarded ((!decide (y.2 = 0)) == false) Y Y Y Y fun h => Ql (ov Y) (ov Y) ZdF Y Y<|gdT h_x h)<|Rq Y (.guarded ((!decide (y.2 = 0)) == false) Y Y Y Y fun h => Zm (ow Y h) Y Y Y ZdJ<|XW<|J4 (o := 0) (o' := ((Int.toNat 2) * 1)) (Zo arL)<|ZaG<|gdT h_x h)<|Rq Y (.guarded ((!decide (y.2 = 0)) == false) Y Y Y Y fun h => Zd7 (X8 (ow Y h) tZ_3) X3<|ZbB _ _)<|Rq Y (.guarded ((!decide (y.2 = 0)) == false) Y Y Y Y fun h => QZ (ow Y h)<|ov Y)<|Rq Y (XX (ov Y) fun hp=>ow Y<|gF hp)<|Rm Y<|bE h fun x2 h_x2 h=>Rq Y (.guarded (((!decide (y.2 = 0)) || (!decide ((x.length : Int) = 58))) == false) Y Y Y Y fun h => Ql (ov Y) (ov Y) ZdF Y Y<|gdT h_x2 h)<|Rq Y (.guarded (((!decide (y.2 = 0)) || (!decide ((x.length : Int) = 58))) == false) Y Y Y Y fun h => Zm (ow Y h) Y Y Y ZdJ<|XW<|J4 (o := 0) (o' := ((Int.toNat 5) * 1)) (Zo arL)<|ZaG<|gdT h_x2 h)<|Rq Y (.guarded (((!decide (y.2 = 0)) || (!decide ((x.length : Int) = 58))) == false) Y Y Y Y fun h => Zd7 (X8 (ow Y h) tZ_3) X3<|ZbB _ _)<|Rq Y (.guarded (((!decide (y.2 = 0)) || (!decide ((x.length : Int) = 58))) == false) Y Y Y Y fun h => QZ (ow Y h)<|ov Y)<|Rq Y (XX (ov Y) fun hp=>ow Y<|gF hp)<|Rm Y<|bE h fun x3 h_x3 h=>Rq Y (.guarded ((((!decide (y.2 = 0)) || (!decide ((x.length : Int) = 58))) || (!decide ((x2.length : Int) = 58))) == false) Y Y Y Y fun h => Ql (ov Y) (ov Y) ZdF Y Y<|gdT h_x3 h)<|Rq Y (.guarded ((((!decide (y.2 = 0)) || (!decide ((x.length : Int) = 58))) || (!decide ((x2.length : Int) = 58))) == false) Y Y Y Y fun h => Zm (ow Y h) Y Y Y ZdJ<|XW<|J4 (o := 0) (o' := ((Int.toNat 10) * 1)) (Zo arL)<|ZaG<|gdT h_x3 h)<|Rq Y (.guarded ((((!decide (y.2 = 0)) || (!decide ((x.length : Int) = 58))) || (!decide ((x2.length : Int) = 58))) == false) Y Y Y Y fun h => Zd7 (X8 (ow Y h) tZ_3) X3<|ZbB _ _)<|Rq Y (.guarded ((((!decide (y.2 = 0)) || (!decide ((x.length : Int) = 58))) || (!decide ((x2.length : Int) = 58))) == false) Y Y Y Y fun h => QZ (ow Y h)<|ov Y)<|Rq Y (XX (ov Y) fun hp=>ow Y<|gF hp)<|Rm Y<|bE h fun x4 h_x4 h=>Rq Y (.guarded (((((!decide (y.2 = 0)) || (!decide ((x.length : Int) = 58))) || (!decide ((x2.length : Int) = 58))) || (!decide ((x3.length : Int) = 58))) == false) Y Y Y Y fun h => Ql (ov Y) (ov Y) ZdF Y Y<|gdT h_x4 h)<|Rq Y (.guarded (((((!decide (y.2 = 0)) || (!decide ((x.length : Int) = 58))) || (!decide ((x2.length : Int) = 58))) || (!decide ((x3.length : Int) = 58))) == false) Y Y Y Y fun h => Zm (ow Y h) Y Y Y ZdJ<|XW<|J4 (o := 0) (o' := ((Int.toNat 2) * 1)) (Zo arL)<|ZaG<|gdT h_x4 h)<|bE h fun x5 h_x5 h=>Rq Y (.guarded (((((!decide (y.2 = 0)) || (!decide ((x.length : Int) = 58))) || (!decide ((x2.length : Int) = 58))) || (!decide ((x3.length : Int) = 58))) == false) Y Y Y Y fun h => ZE (ow Y h) (ov Y) X3<|gdT h_x5 h)<|Rq Y (.guarded (((((!decide (y.2 = 0)) || (!decide ((x.length : Int) = 58))) || (!decide ((x2.length : Int) = 58))) || (!decide ((x3.length : Int) = 58))) == false) Y Y Y Y fun h => Zb (ow Y h) tS3 Y)<|Rq Y (.guarded (((((!decide (y.2 = 0)) || (!decide ((x.length : Int) = 58))) || (!decide ((x2.length : Int) = 58))) || (!decide ((x3.length : Int) = 58))) == false) Y Y Y Y fun h => QZ (ow Y h)<|ov Y)<|Rq Y (XX (ov Y) fun hp=>ow Y<|gF hp)<|Rm Y<|bE h fun x6 h_x6 h=>Rq Y (.guarded ((((((!decide (y.2 = 0)) || (!decide ((x.length : Int) = 58))) || (!decide ((x2.length : Int) = 58))) || (!decide ((x3.length : Int) = 58))) || (!decide (x5 = 28))) == false) Y Y Y Y fun h => Ql (ov Y) (ov Y) ZdF Y Y<|gdT h_x6 h)<|Rq Y (.guarded ((((((!decide (y.2 = 0)) || (!decide ((x.length : Int) = 58))) || (!decide ((x2.length : Int) = 58))) || (!decide ((x3.length : Int) = 58))) || (!decide (x5 = 28))) == false) Y Y Y Y fun h => Zm (ow Y h) Y Y Y ZdJ<|XW<|J4 (o := 0) (o' := ((Int.toNat 2) * 1)) (Zo arL)<|ZaG<|gdT h_x6 h)<|bE h fun x7 h_x7 h=>Rq Y (.guarded ((((((!decide (y.2 = 0)) || (!decide ((x.length : Int) = 58))) || (!decide ((x2.length : Int) = 58))) || (!decide ((x3.length : Int) = 58))) || (!decide (x5 = 28))) == false) Y Y Y Y fun h => ZE (ow Y h) (ov Y) X3<|gdT h_x7 h)<|Rq Y (.guarded ((((((!decide (y.2 = 0)) || (!decide ((x.length : Int) = 58))) || (!decide ((x2.length : Int) = 58))) || (!decide ((x3.length : Int) = 58))) || (!decide (x5 = 28))) == false) Y Y Y Y fun h => Zb (ow Y h) tS3 Y)<|Rq Y (.guarded ((((((!decide (y.2 = 0)) || (!decide ((x.length : Int) = 58))) || (!decide ((x2.length : Int) = 58))) || (!decide ((x3.length : Int) = 58))) || (!decide (x5 = 28))) == false) Y Y Y Y fun h => QZ (ow Y h)<|ov Y)<|Rq Y (XX (ov Y) fun hp=>ow Y<|gF hp)<|Rm Y<|bE h fun x8 h_x8 h=>Rq Y (.guarded (((((((!decide (y.2 = 0)) || (!decide ((x.length : Int) = 58))) || (!decide ((x2.length : Int) = 58))) || (!decide ((x3.length : Int) = 58))) || (!decide (x5 = 28))) || (!decide (x7 = 12))) == false) Y Y Y Y fun h => Ql (ov Y) (ov Y) ZdF Y Y<|gdT h_x8 h)<|Rq Y (.guarded (((((((!decide (y.2 = 0)) || (!decide ((x.length : Int) = 58))) || (!decide ((x2.length : Int) = 58))) || (!decide ((x3.length : Int) = 58))) || (!decide (x5 = 28))) || (!decide (x7 = 12))) == false) Y Y Y Y fun h => Zm (ow Y h) Y Y Y ZdJ<|XW<|J4 (o := 0) (o' := ((Int.toNat 10) * 1)) (Zo arL)<|ZaG<|gdT h_x8 h)<|bE h fun x9 h_x9 h=>Rq Y (.guarded (((((((!decide (y.2 = 0)) || (!decide ((x.length : Int) = 58))) || (!decide ((x2.length : Int) = 58))) || (!decide ((x3.length : Int) = 58))) || (!decide (x5 = 28))) || (!decide (x7 = 12))) == false) Y Y Y Y fun h => ZE (ow Y h) (ov Y) X3<|gdT h_x9 h)<|Rq Y (.guarded (((((((!decide (y.2 = 0)) || (!decide ((x.length : Int) = 58))) || (!decide ((x2.length : Int) = 58))) || (!decide ((x3.length : Int) = 58))) || (!decide (x5 = 28))) || (!decide (x7 = 12))) == false) Y Y Y Y fun h => Zb (ow Y h) tS3 Y)<|Rq Y (.guarded (((((((!decide (y.2 = 0)) || (!decide ((x.length : Int) = 58))) || (!decide ((x2.length : Int) = 58))) || (!decide ((x3.length : Int) = 58))) || (!decide (x5 = 28))) || (!decide (x7 = 12))) == false) Y Y Y Y fun h => QZ (ow Y h)<|ov Y)<|Rq Y (XX (ov Y) fun hp=>ow Y<|gF hp)<|Rm Y<|bE h fun x10 h_x10 h=>Rq Y (.guarded ((((((((!decide (y.2 = 0)) || (!decide ((x.length : Int) = 58))) || (!decide ((x2.length : Int) = 58))) || (!decide ((x3.length : Int) = 58))) || (!decide (x5 = 28))) || (!decide (x7 = 12))) || (!decide (x9 = 0))) == false) Y Y Y Y fun h => Ql (ov Y) (ov Y) ZdF Y Y<|gdT h_x10 h)<|Rq Y (.guarded ((((((((!decide (y.2 = 0)) || (!decide ((x.length : Int) = 58))) || (!decide ((x2.length : Int) = 58))) || (!decide ((x3.length : Int) = 58))) || (!decide (x5 = 28))) || (!decide (x7 = 12))) || (!decide (x9 = 0))) == false) Y Y Y Y fun h => Zm (ow Y h) Y Y Y ZdJ<|XW<|J4 (o := 0) (o' := ((Int.toNat 10) * 1)) (Zo arL)<|ZaG<|gdT h_x10 h)<|bE h fun x11 h_x11 h=>Rq Y (.guarded ((((((((!decide (y.2 = 0)) || (!decide ((x.length : Int) = 58))) || (!decide ((x2.length : Int) = 58))) || (!decide ((x3.length : Int) = 58))) || (!decide (x5 = 28))) || (!decide (x7 = 12))) || (!decide (x9 = 0))) == false) Y Y Y Y fun h => ZE (ow Y h) (ov Y) X3<|gdT h_x11 h)<|Rq Y (.guarded ((((((((!decide (y.2 = 0)) || (!decide ((x.length : Int) = 58))) || (!decide ((x2.length : Int) = 58))) || (!decide ((x3.length : Int) = 58))) || (!decide (x5 = 28))) || (!decide (x7 = 12))) || (!decide (x9 = 0))) == false) Y Y Y Y fun h => Zb (ow Y h) tS3 Y)<|Rq Y (.guarded ((((((((!decide (y.2 = 0)) || (!decide ((x.length : Int) = 58))) || (!decide ((x2.length : Int) = 58))) || (!decide ((x3.length : Int) = 58))) || (!decide (x5 = 28))) || (!decide (x7 = 12))) || (!decide (x9 = 0))) == false) Y Y Y Y fun h => QZ (ow Y h)<|ov Y)<|Rq Y (XX (ov Y) fun hp=>ow Y<|gF hp)<|Rm Y<|bE h fun x12 h_x12 h=>Rq Y (.guarded (((((((((!decide (y.2 = 0)) || (!decide ((x.length : Int) = 58))) || (!decide ((x2.length : Int) = 58))) || (!decide ((x3.length : Int) = 58))) || (!decide (x5 = 28))) || (!decide (x7 = 12))) || (!decide (x9 = 0))) || (!decide (x11 = 16))) == false) Y Y Y Y fun h => Ql (ov Y) (ov Y) ZdF Y Y<|gdT h_x12 h)<|Rq Y (.guarded (((((((((!decide (y.2 = 0)) || (!decide ((x.length : Int) = 58))) || (!decide ((x2.length : Int) = 58))) || (!decide ((x3.length : Int) = 58))) || (!decide (x5 = 28))) || (!decide (x7 = 12))) || (!decide (x9 = 0))) || (!decide (x11 = 16))) == false) Y Y Y Y fun h => Zm (ow Y h) Y Y Y ZdJ<|XW<|J4 (o := 0) (o' := ((Int.toNat 5) * 1)) (Zo arL)<|ZaG<|gdT h_x12 h)<|bE h fun x13 h_x13 h=>Rq Y (.guarded (((((((((!decide (y.2 = 0)) || (!decide ((x.length : Int) = 58))) || (!decide ((x2.length : Int) = 58))) || (!decide ((x3.length : Int) = 58))) || (!decide (x5 = 28))) || (!decide (x7 = 12))) || (!decide (x9 = 0))) || (!decide (x11 = 16))) == false) Y Y Y Y fun h => ZE (ow Y h) (ov Y) X3<|gdT h_x13 h)<|Rq Y (.guarded (((((((((!decide (y.2 = 0)) || (!decide ((x.length : Int) = 58))) || (!decide ((x2.length : Int) = 58))) || (!decide ((x3.length : Int) = 58))) || (!decide (x5 = 28))) || (!decide (x7 = 12))) || (!decide (x9 = 0))) || (!decide (x11 = 16))) == false) Y Y Y Y fun h => Zb (ow Y h) tS3 Y)<|Rq Y (.guarded (((((((((!decide (y.2 = 0)) || (!decide ((x.length : Int) = 58))) || (!decide ((x2.length : Int) = 58))) || (!decide ((x3.length : Int) = 58))) || (!decide (x5 = 28))) || (!decide (x7 = 12))) || (!decide (x9 = 0))) || (!decide (x11 = 16))) == false) Y Y Y Y fun h => QZ (ow Y h)<|ov Y)<|Rq Y (XX (ov Y) fun hp=>ow Y<|gF hp)<|Za<|K3 1 2 70 Y<|If h Y (fun h=>?_) fun h=>?_
 ·
  refine K0<|Tr<|Ra Y<|Za<|?_
  obtain rfl := rt h
  exact Zi (Zn Y (.one<|rb Y))
 ·
  refine Ze<|K2 1 2 Y<|Tr<|Rq Y (ZC (ov Y) Y Y Y ZgF Y Y)<|Rq Y (ZC (ov Y) Y Y Y Za0 (ZY<|Zo arL) arL (hns := (nsM fun _ => Y)))<|bE h fun y2 h_y2 h=>Rq Y (Zl (Zgg h_y2)<|.cons (ov Y) (.aggB Y)<|.cons (ov Y) (.aggB<|arD fun _ => Y) .nil)<|Rm Y<|Rq Y (ZK (ov Y) Y)<|Rq Y (ZK (ov Y) Y)<|Ra Y<|Ra Y<|Za<|K2 3 4 Y<|Tr<|Rm Y<|R2 Qz Y<|Rm Y<|Rq Y (.guarded ((decide (y2.2 = 0)) == true) Y Y Y Y fun h => Zr<|ov Y)<|Rq Y (.guarded ((decide (y2.2 = 0)) == true) Y Y Y Y fun h => Zd7 (X8 (ow Y h) tZ_51) Zm5<|ZbB _ _)<|Rq Y (.guarded ((decide (y2.2 = 0)) == true) Y Y Y Y fun h => Qz (ow Y h)<|ov Y)<|Rq Y (JW (ov Y) fun hp=>ow Y<|gT hp)<|Rm Y<|Rq Y (.guarded (((decide (y2.2 = 0)) && (decide ((y2.1.length : Int) = 4))) == true) Y Y Y Y fun h => Zr<|ov Y)<|bE h fun x14 h_x14 h=>Rq Y (.guarded (((decide (y2.2 = 0)) && (decide ((y2.1.length : Int) = 4))) == true) Y Y Y Y fun h => ZE (ow Y h) (ov Y) Zm5<|gdT h_x14 h)<|Rq Y (.guarded (((decide (y2.2 = 0)) && (decide ((y2.1.length : Int) = 4))) == true) Y Y Y Y fun h => Zk (ow Y h) Zpq Y Y)<|Rq Y (.guarded (((decide (y2.2 = 0)) && (decide ((y2.1.length : Int) = 4))) == true) Y Y Y Y fun h => JP (ys := [_, _, _, _]) ZnF ZnS ZoU (.cons (cvs (ov Y)<|Zs Y)<|.cons (cvs (ov Y)<|Zs Y)<|.cons (cvs (ov Y)<|Zs Y) .nil) Y)<|Rq Y (.guarded (((decide (y2.2 = 0)) && (decide ((y2.1.length : Int) = 4))) == true) Y Y Y Y fun h => Zn1 ZoP (ow Y h) (ow Y h) (.aggB Y) (.aggB Y) Y Y)<|Rq Y (JW (ov Y) fun hp=>ow Y<|gT hp)<|Ra Y<|Za<|?_
  obtain rfl := rt h
  exact Zi (Zn Y (.one<|rb Y))
theorem ZbX {m : api_Map} {first : Int} {l : List Int} {r : Bool} (h : QC m first l = some r) :
 CSpec Tryd.prog gl0 3 [.agg [.int .i64 m.Version, .sl 46 (List.map R46 m.Params)], .int .i64 first, .sl 3 (List.map R3 l)] (.bool r) := by
 unfold QC at h
 replace h := Z0 h
 refine So Tryd.func3 Y fun w0 A=>Tr<|Rq Y (Qa (cva<|ov Y) Y tZ_24 Y)<|Ra Y<|Za<|K3 1 2 3 Y<|Tr<|Rq Y (Zk (ov Y) ZgF Y Y)<|Rm Y<|Rm Y<|bE h fun y h_y h=>Rq Y (Zl (ZgS h_y)<|.cons (ov Y) (.aggB Y)<|.cons (ov Y) (.b Y)<|.cons (ov Y) (.b Y) .nil)<|Rm Y<|Rq Y (ZK (ov Y) Y)<|Rq Y (ZK (ov Y) Y)<|Rx Y (Zq (row := ((Vector.replicate 16 (Vector.replicate 64 0)).toList.flatMap R28)) 0 Y Zll (by kernel_rfl)<|by exact Eq.symm (Eq.trans (b := 1024) (ZM (fun x => (D28 x).1.trans tZ_28) rfl) tZ_29.symm))<|Rx Y (Zj (ov Y) (ov Y) (Zg ZbI<|ZM (fun x=>(D28 x).1.trans tZ_28) Y) Y Y Y (QF (Zo<|ZM (fun x=>(D28 x).1.trans tZ_28) Y)<|ZM (fun x=>(D28 x).1.trans tZ_28) Y) (Zc<|Zh2 E28)<|Qo<|Eq.trans (ZM (fun x=>(D28 x).1.trans tZ_28) Y)<|Eq.symm<|ZM (fun x=>(D28 x).1.trans tZ_28) Y)<|Ra Y<|Za<|K5 1 2 3 7 8 Y<|Tr<|Rq Y (Zk (ov Y) ZgF Y Y)<|Rm Y<|Rm Y<|bE h fun y2 h_y2 h=>Rq Y (Zl (Zh7 h_y2)<|.cons (ov Y) (.aggB Y)<|.cons (ov Y) (.b Y)<|.cons (ov Y) (.b Y) .nil)<|Rm Y<|Rq Y (ZK (ov Y) Y)<|Rq Y (ZK (ov Y) Y)<|Rx Y (Zq (row := ((Vector.replicate 16 (Vector.replicate 64 0)).toList.flatMap R28)) 1 Y Zll (by kernel_rfl)<|by exact Eq.symm (Eq.trans (b := 1024) (ZM (fun x => (D28 x).1.trans tZ_28) rfl) tZ_29.symm))<|Rx Y (Zj (ov Y) (ov Y) (Zg ZbI<|ZM (fun x=>(D28 x).1.trans tZ_28) Y) Y Y Y (QF (Zo<|ZM (fun x=>(D28 x).1.trans tZ_28) Y)<|ZM (fun x=>(D28 x).1.trans tZ_28) Y) (Zc<|Zh2 E28)<|Qo<|Eq.trans (ZM (fun x=>(D28 x).1.trans tZ_28) Y)<|Eq.symm<|ZM (fun x=>(D28 x).1.trans tZ_28) Y)<|Ra Y<|Za<|K4 7 8 9 10 Y<|Tr<|Rq Y (ZC (ov Y) Y Y Y ZbI (ZY<|Zo<|ZM (fun x=>(D28 x).1.trans tZ_28) Y) (ZM (fun x=>(D28 x).1.trans tZ_28) Y) (hns := (Xj (Xq fun x => (D28 x).2))))<|Rq Y (ZC (ov Y) Y Y Y ZbI (ZY<|Zo<|ZM (fun x=>(D28 x).1.trans tZ_28) Y) (ZM (fun x=>(D28 x).1.trans tZ_28) Y) (hns := (Xj (Xq fun x => (D28 x).2))))<|Rq Y (Zn2 ZoO (ov Y) (ov Y) (.aggB<|Xq fun x => (D28 x).2) (.aggB<|Xq fun x => (D28 x).2) (Zn4 fun x => ZnT x) (Zn4 fun x => ZnT x)<|Zo0 (fun x=>(D28 x).1.trans tZ_28) Q28)<|Rm Y<|Rq Y (.guarded ((Zho ZfO y.1 y2.1) == true) Y Y Y Y fun h => Zr<|ov Y)<|Rq Y (.guarded ((Zho ZfO y.1 y2.1) == true) Y Y Y Y fun h => Zr<|ov Y)<|Rq Y (.guarded ((Zho ZfO y.1 y2.1) == true) Y Y Y Y fun h => Qz (ow Y h)<|ow Y h)<|Rq Y (JW (ov Y) fun hp=>ow Y<|gT hp)<|Rm Y<|bE h fun y3 h_y3 h=>Rq Y (.guarded (((Zho ZfO y.1 y2.1) && (decide (y.2 = y2.2))) == true) Y Y Y Y fun h => Zl (ZhD<|gdT h_y3 h) .nil)<|Rq Y (JW (ov Y) fun hp=>ow Y<|gT hp)<|Ra Y<|Za<|?_
 obtain rfl := rt h
 exact Zi (Zn Y (.one<|rb Y))
end Go.Proofs.YtpfdelgflppgnabDoor
