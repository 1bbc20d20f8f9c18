/- A text of the proof: a verified executor of the program form, or the contracts of the functions that the law reaches. -/
import Derived.Test.YtacmhbfmedpkhaaGreatDoorOkFa
set_option linter.all false
namespace Go.Proofs.YtacmhbfmedpkhaaGreatDoor
open Go Go.Vx
set_option maxRecDepth 10000
set_option maxHeartbeats 1000000
set_option linter.unusedVariables false
theorem J3 {s : List api_Param} {f : api_Param → Option Bool} {r : Bool} {f_f : FuncId} {f_c : List AV} (f_d : f_c.all datB = true) (f_h : ∀ (z0 : api_Param) z, f z0 = some z → CSpec Tryz.prog gl0 f_f ([.agg [.str z0.Name, .int .i64 z0.Kind, .sl 121 (List.map Z9 z0.Parts), .int .i64 z0.First, .int .i64 z0.Every, .int .i64 z0.Times, .int .i64 z0.Step, .sl 9 (List.map R9 z0.Names)]] ++ f_c) (.bool z)) (h : ZP s f = some r) :
 CSpec Tryz.prog gl0 57 [.sl 45 (List.map R45 s), .fn f_f f_c] (.bool r) := by
 unfold ZP at h
 replace h := ZE h
 refine So Tryz.func57 Y fun w0 A=>Tr<|Ra Y<|Za<|Tr<|Rm Y<|Rm Y<|bE h fun y h_y h=>Rq Y (Zl (Xc f_d f_h h_y)<|.cons (ov Y) (.b Y)<|.cons (ov Y) (Dat.fnC<|.refl fun x hx => .b<|List.all_eq_true.1 f_d x hx) .nil)<|R2 JP Y<|Ra Y<|Za<|?_
 obtain rfl := rt h
 exact Zi (Zq Y (.one<|rb Y))
theorem Zg8 {q : api_Param} {c0 : api_Param} {r : Bool} (h : Zca q c0 = some r) :
 CSpec Tryz.prog gl0 58 [.agg [.str q.Name, .int .i64 q.Kind, .sl 121 (List.map Z9 q.Parts), .int .i64 q.First, .int .i64 q.Every, .int .i64 q.Times, .int .i64 q.Step, .sl 9 (List.map R9 q.Names)], .rp [.str c0.Name, .int .i64 c0.Kind, .sl 121 (List.map Z9 c0.Parts), .int .i64 c0.First, .int .i64 c0.Every, .int .i64 c0.Times, .int .i64 c0.Step, .sl 9 (List.map R9 c0.Names)] 0] (.bool r) := by
 unfold Zca at h
 replace h := ZE h
 refine So Tryz.func58 Y fun w0 A=>Tr<|Rq Y (Zv (cva<|ov Y) Y tZ_45 Y)<|Ra Y<|Za<|K3 1 2 3 Y<|Tr<|Rq Y (Zc (ov Y) Zfd)<|Rq Y (Zb (ov Y) tS9 Y)<|Rq Y (Zc (ov Y) Zfd)<|Rq Y (Zb (ov Y) tS9 Y)<|R2 ZdG Y<|Ra Y<|Za<|?_
 obtain rfl := rt h
 exact Zi (Zq Y (.one<|rb Y))
theorem ZeS {m : api_Map} {r : Int × Int} (h : Za5 m = some r) :
 CSpec Tryz.prog gl0 31 [.agg [.int .i64 m.Version, .sl 45 (List.map R45 m.Params)]] (.tuple [.int .i64 r.1, .int .i64 r.2]) := by
 unfold Za5 at h
 replace h := ZE h
 refine So Tryz.func31 Y fun w0 A=>Tr<|Rq Y (Zv (cva<|ov Y) Y tZ_24 Y)<|Ra Y<|Ra Y<|Za<|Zj<|K1 1 Y<|Tr<|Rq Y (Zc (ov Y) ZkK)<|Rq Y (Zb (ov Y) tS3 Y)<|bE h fun y h_y h=>Rq Y (Zl (QS h_y)<|.cons (ov Y) (.b Y)<|.cons (ov Y) (.b Y)<|.cons (ov Y) (.b Y) .nil)<|R1 Z0 Y<|Za<|K2 1 18 Y<|If h Y (fun h=>?_) fun h=>?_
 ·
  refine K0<|Tr<|Ra Y<|Ra Y<|Za<|?_
  obtain rfl := rt h
  exact Zi (Zq Y (.two (rb Y)<|rb Y))
 ·
  refine Ze<|Zj<|K1 1 Y<|Tr<|Rq Y (Zc (ov Y) ZaA)<|Rq Y (Zb (ov Y) Ze4 Y)<|Rl tZ_45 ZbX Y<|R2 Qj Y<|Za<|K2 1 22 Y<|If h Y (fun h=>?_) fun h=>?_
  ·
   refine K0<|Tr<|Ra Y<|Ra Y<|Za<|?_
   obtain rfl := rt h
   exact Zi (Zq Y (.two (rb Y)<|rb Y))
  ·
   refine Ze<|J0 (fun j => (.inr j)) ⟨[(1, .rp [.int .i64 m.Version, .sl 45 (List.map R45 m.Params)] 0)], []⟩ h (fun h=>?_) fun h=>?_
   ·
    refine K1 1 Y<|Tr<|Rq Y (Zc (ov Y) ZaA)<|Rq Y (Zb (ov Y) Ze4 Y)<|Rl tZ_45 ZbX Y<|Rm Y<|Za<|Zf<|?_
    obtain ⟨r1, hl1, ho1⟩ := Z1 h
    refine L1 (fun i=>⟨[(1, .rp [.int .i64 m.Version, .sl 45 (List.map R45 m.Params)] 0), (24, .sl 45 (List.map R45 m.Params)), (25, .int .i64 (m.Params.length : Int)), (26, .int .i64 i)], []⟩) hl1 (ES []) fun n1 i h=>?_
    unfold Zal at h
    refine Tr<|R2 Zw Y<|Za<|Zj<|If h Y (fun h=>?_) fun h=>?_
    ·
     refine Ze<|Zj<|Zf<|K4 1 24 25 26 Y<|Tr<|Rm Y<|bE h fun x h_x h=>Rq Y (Zx (ov Y) (ov Y) ZbX h_x)<|Rq Y (Zh (ov Y) Q7 Y Y)<|Rx Y (Zt (row := [_, _, _, _, _, _, _, _]) 0 Y Zju Y tZ_45)<|Ra Y<|Rx Y (Zo (ov Y) (ov Y) (Zk Q7 Y) Y Y Y (Nat.le_of_ble_eq_true Y) (Zd Y) Y)<|Za<|Zj<|K6 1 4 5 24 25 26 Y<|Tr<|Rq Y (ZL (ov Y) Y Y Y Q7 Y Y)<|bE h fun y2 h_y2 h=>Rq Y (Zl (Zfh h_y2)<|.cons (ov Y) (.aggB Y) .nil)<|Ra Y<|Za<|K7 1 4 5 6 24 25 26 Y<|Tr<|Rm Y<|R2 QC Y<|Za<|K8 1 4 5 6 24 25 26 34 Y<|If h Y (fun h=>?_) fun h=>?_
     ·
      refine K2 4 6 Y<|Tr<|Rm Y<|Rm Y<|Ra Y<|Ra Y<|Za<|?_
      replace h := lx h ▸ ho1
      obtain rfl := rt h
      exact Zi (Zq Y (.two (rb Y)<|rb Y))
     ·
      refine Ze<|K6 1 4 5 24 25 26 Y<|Tr<|Rq Y (Zc (ov Y) ZaA)<|Rq Y (Zb (ov Y) Ze4 Y)<|Rm Y<|bE h fun l h_l h=>Rq Y (ZbC (ov Y) ZbX on (oi<|ov Y) h_l)<|ZgW (Ent.sel [none] (sd 1 Y Y<|sd 4 Y Y<|sr 5 Y (.frp ⟨Y, ⟨_, Y⟩, Y, Y⟩)<|sd 24 Y Y<|sd 25 Y Y<|sd 26 Y Y<|sd 37 Y Y<|sd 38 Y Y<|sd 39 Y Y<|sd 40 Y Y sn) (.row 45 .nil) Y Y)<|Rq Y (Qz<|.cons (ov Y) .nil)<|bE h fun y3 h_y3 h=>Rq Y (Zl (J3 Y (fun z0 _ hz=>Zg8 hz) h_y3)<|.cons (ov Y) (.b Y)<|.cons (ov Y) (.fnC<|.cons (.b Y) .nil) .nil)<|Za<|K6 1 4 24 25 26 42 Y<|If h Y (fun h=>?_) fun h=>?_
      ·
       refine K1 4 Y<|Tr<|Rm Y<|Ra Y<|Ra Y<|Za<|?_
       replace h := lx h ▸ ho1
       obtain rfl := rt h
       exact Zi (Zq Y (.two (rb Y)<|rb Y))
      ·
       exact Ze<|K4 1 24 25 26 Y<|Zs<|R2 ZB Y<|Rm Y<|Za<|⟨_, h, ES []⟩
    ·
     refine Zu<|?_
     replace h := lx h ▸ ho1
     exact ⟨_, h, ES []⟩
   ·
    replace h := elr h
    replace h := t0i h
    refine Tr<|Ra Y<|Za<|J0 (fun j => (.inr j)) ⟨[(1, .rp [.int .i64 m.Version, .sl 45 (List.map R45 m.Params)] 0)], []⟩ h (fun h=>?_) fun h=>?_
    ·
     refine Tr<|Rq Y (Zc (ov Y) ZaA)<|Rq Y (Zb (ov Y) Ze4 Y)<|Rl tZ_45 ZbX Y<|Rm Y<|Za<|Zf<|?_
     obtain ⟨r2, hl2, ho2⟩ := Z1 h
     refine L2 (fun cells i2=>⟨[(1, .rp [.int .i64 m.Version, .sl 45 (List.map R45 m.Params)] 0), (7, .int .i64 cells), (46, .sl 45 (List.map R45 m.Params)), (47, .int .i64 (m.Params.length : Int)), (48, .int .i64 i2)], []⟩) hl2 (ES []) fun n2 cells i2 h=>?_
     unfold Jb at h
     refine Tr<|R2 Zw Y<|Za<|Zj<|If h Y (fun h=>?_) fun h=>?_
     ·
      refine Ze<|Zj<|Zf<|K5 1 7 46 47 48 Y<|Tr<|Rm Y<|bE h fun x2 h_x2 h=>Rq Y (Zx (ov Y) (ov Y) ZbX h_x2)<|Rq Y (Zh (ov Y) Q7 Y Y)<|Rx Y (Zt (row := [_, _, _, _, _, _, _, _]) 0 Y Zju Y tZ_45)<|Ra Y<|Rx Y (Zo (ov Y) (ov Y) (Zk Q7 Y) Y Y Y (Nat.le_of_ble_eq_true Y) (Zd Y) Y)<|Za<|K7 1 7 8 9 46 47 48 Y<|Td md0<|D1 0 Zm Y<|Dq 1 Y (ZL (ov Y) Y Y Y Q7 Y Y)<|bE h fun y4 h_y4 h=>Dq 2 Y (Zl (Zef h_y4)<|.cons (ov Y) (.aggB Y) .nil)<|Dq 3 Y (Zhg (Qp (ov Y) tZ_3) Zea<|Zdp _ _)<|Dq 4 Y (Zg (ov Y) Y Y ZcE)<|Dq 5 Y (Zn (ov Y) Y Y Y tS3 Y)<|D2 6 Zck Y<|D2 7 ZB Y<|D1 8 Z6 Y<|Dd<|K6 1 7 8 46 47 48 Y<|Tr<|Rm Y<|R2 Qj Y<|Za<|K7 1 7 8 46 47 48 62 Y<|If h Y (fun h=>?_) fun h=>?_
      ·
       refine K1 8 Y<|Tr<|Rm Y<|Ra Y<|Ra Y<|Za<|?_
       replace h := lx h ▸ ho2
       obtain rfl := rt h
       exact Zi (Zq Y (.two (rb Y)<|rb Y))
      ·
       exact Ze<|K5 1 7 46 47 48 Y<|Zs<|R2 ZB Y<|Rm Y<|Za<|⟨_, h, ES []⟩
     ·
      refine Zu<|?_
      replace h := lx h ▸ ho2
      exact ⟨_, h, ES []⟩
    ·
     replace h := elr h
     replace h := t0i h
     refine Tr<|Rx Y (ZcC 0 Y Zkl)<|Ra Y<|Za<|J0 (fun j => (.inr j)) ⟨[], []⟩ h (fun h=>?_) fun h=>?_
     ·
      refine K2 1 10 Y<|Tr<|Rq Y (Zc (ov Y) ZaA)<|Rq Y (Zb (ov Y) Ze4 Y)<|Rl tZ_45 ZbX Y<|Rm Y<|Za<|Zf<|?_
      obtain ⟨r3, hl3, ho3⟩ := Z1 h
      refine L2 (fun taken i3=>⟨[(10, .mref 0 1), (67, .sl 45 (List.map R45 m.Params)), (68, .int .i64 (m.Params.length : Int)), (69, .int .i64 i3)], [some ⟨108, [[.mcon (List.map (Q3 XO FV3) taken)]]⟩]⟩) hl3 (ES [some 0] (hhp := .cons Y (QT (fk := XO) (fv := FV3) (m := ([] : List (layout_bit × Int))) tZ_108 (fun _=>XH<|rld Y) fun _=>.ren<|.dat Y) .nil)) fun n3 taken i3 h=>?_
      unfold Ja at h
      refine Tr<|R2 Zw Y<|Za<|Zj<|If h Y (fun h=>?_) fun h=>?_
      ·
       refine Ze<|J1 (fun j => (.inr j)) (fun taken2=>⟨[(10, .mref 0 1), (67, .sl 45 (List.map R45 m.Params)), (68, .int .i64 (m.Params.length : Int)), (69, .int .i64 i3)], [some ⟨108, [[.mcon (List.map (Q3 XO FV3) taken2)]]⟩]⟩) h (fun h=>?_) fun taken2 h=>?_
       ·
        refine Zf<|K4 10 67 68 69 Y<|Tr<|Rm Y<|bE h fun x3 h_x3 h=>Rq Y (Zx (ov Y) (ov Y) ZbX h_x3)<|Rq Y (Zh (ov Y) Q7 Y Y)<|Rx Y (Zt (row := [_, _, _, _, _, _, _, _]) 1 Y Zju Y tZ_45)<|Ra Y<|Rx Y (Zo (ov Y) (ov Y) (Zk Q7 Y) Y Y Y (Nat.le_of_ble_eq_true Y) (Zd Y) Y)<|Za<|K6 10 11 12 67 68 69 Y<|Tr<|Rm Y<|Rq Y (ZL (ov Y) Y Y Y Q7 Y Y)<|bE h fun y5 h_y5 h=>Rq Y (Zl (Zb7 h_y5)<|.cons (ov Y) (.b Y)<|.cons (ov Y) (.aggB Y) .nil)<|Rl tZ_85 Zbq Y<|Rm Y<|Za<|Zf<|?_
        obtain ⟨r4, hl4, ho4⟩ := Z1 h
        refine L2 (fun taken3 i4=>⟨[(10, .mref 0 1), (11, .int .i64 i3), (67, .sl 45 (List.map R45 m.Params)), (68, .int .i64 (m.Params.length : Int)), (69, .int .i64 i3), (76, .sl 85 (List.map R85 y5)), (77, .int .i64 (y5.length : Int)), (78, .int .i64 i4)], [some ⟨108, [[.mcon (List.map (Q3 XO FV3) taken3)]]⟩]⟩) hl4 (ES [some 0] (hhp := .cons Y (QT (fk := XO) (fv := FV3) (m := taken) tZ_108 (fun _=>XH<|rld Y) fun _=>.ren<|.dat Y) .nil)) fun n4 taken3 i4 h=>?_
        unfold Jd at h
        refine Tr<|R2 Zw Y<|Za<|Zj<|If h Y (fun h=>?_) fun h=>?_
        ·
         refine Ze<|Zj<|Zf<|K8 10 11 67 68 69 76 77 78 Y<|Tr<|bE h fun x4 h_x4 h=>Rq Y (Zx (ov Y) (ov Y) Zbq h_x4)<|Rq Y (Zh (ov Y) Ze6 Y Y)<|Rx Y (Zt (row := [_, _, _, _]) 1 Y ZkN Y tZ_85)<|Rx Y (Zo (ov Y) (ov Y) (Zk Ze6 Y) Y Y Y (Nat.le_of_ble_eq_true Y) (Zd Y) Y)<|Za<|K9 10 11 14 67 68 69 76 77 78 Y<|Tr<|Rm Y<|Rm Y<|Rq Y (Zg (ov Y) Y Y Zcr)<|Rq Y (Zn (ov Y) Y Y Y Zhy Y)<|bE h fun y6 h_y6 h=>Rx Y (Qq [0] (Zfm h_y6) (.cons (ov Y) (.mref _ Y)<|.cons (ov Y) (.dat Y)<|.cons (ov Y) (.dat Y) .nil) (.cons Y (QT (fk := XO) (fv := FV3) (m := taken3) tZ_108 (fun _=>XH<|rld Y) fun _=>.ren<|.dat Y) .nil) Y (.lent 0 (.inl Y) Y (QT (fk := XO) (fv := FV3) (m := y6.2) tZ_108 (fun _=>XH<|rld Y) fun _=>.ren<|.dat Y)<|.keep Y Y .nil) Y Y<|.dat Y)<|R1 Z0 Y<|Za<|K9 10 11 67 68 69 76 77 78 87 Y<|If h Y (fun h=>?_) fun h=>?_
         ·
          refine K1 11 Y<|Tr<|Rm Y<|Ra Y<|Ra Y<|Za<|?_
          replace h := lx h ▸ ho4
          replace h := lx h ▸ ho3
          obtain rfl := rt h
          exact Zi (Zq Y (.two (rb Y)<|rb Y))
         ·
          exact Ze<|K8 10 11 67 68 69 76 77 78 Y<|Zs<|R2 ZB Y<|Rm Y<|Za<|⟨_, h, ES [some 0] (hhp := .cons Y (QT (fk := XO) (fv := FV3) (m := y6.2) tZ_108 (fun _=>XH<|rld Y) fun _=>.ren<|.dat Y) .nil)⟩
        ·
         refine Zu<|?_
         replace h := lx h ▸ ho4
         exact ⟨_, h, ES [some 0] (hhp := .cons Y (QT (fk := XO) (fv := FV3) (m := taken3) tZ_108 (fun _=>XH<|rld Y) fun _=>.ren<|.dat Y) .nil)⟩
       ·
        replace h := elr h
        replace h := t1i h
        exact Zs<|R2 ZB Y<|Rm Y<|Za<|⟨_, h, ES [some 0] (hhp := .cons Y (QT (fk := XO) (fv := FV3) (m := taken2) tZ_108 (fun _=>XH<|rld Y) fun _=>.ren<|.dat Y) .nil)⟩
      ·
       refine Zu<|?_
       replace h := lx h ▸ ho3
       exact ⟨_, h, ES []⟩
     ·
      replace h := elr h
      replace h := t0i h
      refine Tr<|Ra Y<|Ra Y<|Za<|?_
      obtain rfl := rt h
      exact Zi (Zq Y (.two (rb Y)<|rb Y))
theorem Zia {m : api_Map} {r : Int × Int} (h : Zcf m = some r) :
 CSpec Tryz.prog gl0 10 [.agg [.int .i64 m.Version, .sl 45 (List.map R45 m.Params)]] (.tuple [.int .i64 r.1, .int .i64 r.2]) := by
 unfold Zcf at h
 replace h := ZE h
 refine So Tryz.func10 Y fun w0 A=>Tr<|Rq Y (Zv (cva<|ov Y) Y tZ_24 Y)<|Ra Y<|Ra Y<|Za<|K1 1 Y<|Tr<|Rq Y (Zh (ov Y) Zf6 Y Y)<|bE h fun y h_y h=>Rq Y (Zl (ZeS h_y)<|.cons (ov Y) (.aggB Y) .nil)<|Rm Y<|Rq Y (Zr (ov Y) Y)<|Rq Y (Zr (ov Y) Y)<|Ra Y<|Ra Y<|Za<|K2 4 5 Y<|Tr<|Rm Y<|Rq Y (ZrI (ov Y) (ov Y) Y)<|Rm Y<|Ra Y<|Ra Y<|Za<|?_
 obtain rfl := rt h
 exact Zi (Zq Y (.two (rb Y)<|rb Y))
theorem Ze1 {p : api_Param} {c0 : Str} {r : Bool} (h : QO p c0 = some r) :
 CSpec Tryz.prog gl0 12 [.agg [.str p.Name, .int .i64 p.Kind, .sl 121 (List.map Z9 p.Parts), .int .i64 p.First, .int .i64 p.Every, .int .i64 p.Times, .int .i64 p.Step, .sl 9 (List.map R9 p.Names)], .rp [.str c0] 0] (.bool r) := by
 unfold QO at h
 replace h := ZE h
 refine So Tryz.func12 Y fun w0 A=>Tr<|Rq Y (Zv (cva<|ov Y) Y tZ_45 Y)<|Ra Y<|Za<|K3 1 2 3 Y<|Tr<|Rq Y (Zc (ov Y) Zfd)<|Rq Y (Zb (ov Y) tS9 Y)<|Rq Y (Zb (ov Y) tS9 Y)<|R2 ZdG Y<|Ra Y<|Za<|?_
 obtain rfl := rt h
 exact Zi (Zq Y (.one<|rb Y))
theorem ZdU {n : Int} {low : Int} {high : Int} {r : Bool} (h : JL n low high = some r) :
 CSpec Tryz.prog gl0 62 [.int .i64 n, .int .i64 low, .int .i64 high] (.bool r) := by
 unfold JL at h
 replace h := ZE h
 refine So Tryz.func62 Y fun w0 A=>Tr<|Ra Y<|Za<|Tr<|Rm Y<|Rm Y<|R2 JP Y<|Rm Y<|Rq Y (.guarded ((decide (low ≤ n)) == true) Y Y Y Y fun h => Zm<|ov Y)<|Rq Y (.guarded ((decide (low ≤ n)) == true) Y Y Y Y fun h => Zm<|ov Y)<|Rq Y (.guarded ((decide (low ≤ n)) == true) Y Y Y Y fun h => ZaZ (ow Y h)<|ow Y h)<|Rq Y (Ql (ov Y) fun hp=>ow Y<|gT hp)<|Ra Y<|Za<|?_
 obtain rfl := rt h
 exact Zi (Zq Y (.one<|rb Y))
theorem Zgb {x : Int} {r : Int} (h : Zct x = some r) :
 CSpec Tryz.prog gl0 127 [.int .u16 x] (.int .i64 r) := by
 unfold Zct at h
 replace h := ZE h
 refine So Tryz.func127 Y fun w0 A=>Tr<|Ra Y<|Za<|Td md0<|D1 0 Zm Y<|bE h fun q h_q h=>Dq 1 Y (Zft (ov Y) (ov Y) h_q)<|bE h fun b h_b h=>Dq 2 Y (Zfj (ov Y) (ov Y) Zd0 h_b)<|D1 3 Zm Y<|D2 4 Zcp Y<|bE h fun b2 h_b2 h=>Dq 5 Y (Zfj (ov Y) (ov Y) Zd0 h_b2)<|D2 6 ZB Y<|Dq 7 Y (J2 (ov Y) tI5 tI3 Y)<|D1 8 Z6 Y<|Dd<|?_
 obtain rfl := rt h
 exact Zi (Zq Y (.one<|rb Y))
theorem ZeH {w : Int} {r : Bool} (h : ZcA w = some r) :
 CSpec Tryz.prog gl0 111 [.int .u16 w] (.bool r) := by
 unfold ZcA at h
 replace h := ZE h
 refine So Tryz.func111 Y fun w0 A=>Tr<|Ra Y<|Za<|Tr<|Rm Y<|R2 ZaZ Y<|Rm Y<|Rq Y (.guarded ((decide (w ≤ 4095)) == true) Y Y Y Y fun h => Zm<|ov Y)<|bE h fun y h_y h=>Rq Y (.guarded ((decide (w ≤ 4095)) == true) Y Y Y Y fun h => Zl (Zgb<|gdT h_y h)<|.cons (ow Y h) (.b Y) .nil)<|bE h fun q h_q h=>Rq Y (.guarded ((decide (w ≤ 4095)) == true) Y Y Y Y fun h => ZaL (ow Y h) (ov Y)<|gdT h_q h)<|Rq Y (.guarded ((decide (w ≤ 4095)) == true) Y Y Y Y fun h => Z4 (ow Y h)<|ov Y)<|Rq Y (Ql (ov Y) fun hp=>ow Y<|gT hp)<|Ra Y<|Za<|?_
 obtain rfl := rt h
 exact Zi (Zq Y (.one<|rb Y))
theorem Zao {w : Int} {r : Int} (h : Jv w = some r) :
 CSpec Tryz.prog gl0 128 [.int .u16 w] (.int .i64 r) := by
 unfold Jv at h
 replace h := ZE h
 refine So Tryz.func128 Y fun w0 A=>Tr<|Ra Y<|Za<|Tr<|Rm Y<|R2 Zcp Y<|Rq Y (J2 (ov Y) Zhs tI3 Y)<|Ra Y<|Za<|?_
 obtain rfl := rt h
 exact Zi (Zq Y (.one<|rb Y))
theorem ZdZ {f : Vector Int 64} {r : Int} (h : JF f = some r) :
 CSpec Tryz.prog gl0 112 [.rp (List.map C51 f.toList) 0] (.int .i64 r) := by
 unfold JF at h
 replace h := ZE h
 refine So Tryz.func112 Y fun w0 A=>Tr<|Ra Y<|Za<|Td md0<|D1 0 Zm Y<|D1 1 XQ Y<|bE h fun x h_x h=>Dq 2 Y (QN (ov Y) (ov Y) ZbL h_x)<|Dq 3 Y (Zb (ov Y) Zbz<|ZG<|Xb (o := 0) (o' := ((Int.toNat 1) * 1)) (Z2 arL)<|Xs h_x)<|bE h fun y h_y h=>Dq 4 Y (Zl (Zao h_y)<|.cons (ov Y) (.b Y) .nil)<|D1 5 Zm Y<|D1 6 XQ Y<|bE h fun x2 h_x2 h=>Dq 7 Y (QN (ov Y) (ov Y) ZbL h_x2)<|Dq 8 Y (Zb (ov Y) Zbz<|ZG<|Xb (o := 0) (o' := ((Int.toNat 2) * 1)) (Z2 arL)<|Xs h_x2)<|bE h fun y2 h_y2 h=>Dq 9 Y (Zl (Zao h_y2)<|.cons (ov Y) (.b Y) .nil)<|bE h fun q h_q h=>Dq 10 Y (ZaH (ov Y) (ov Y) h_q)<|D2 11 Zl0 Y<|D1 12 Z6 Y<|Dd<|?_
 obtain rfl := rt h
 exact Zi (Zq Y (.one<|rb Y))
theorem Zib {f : Vector Int 64} {r : Int × Bool} (h : Zb4 f = some r) :
 CSpec Tryz.prog gl0 90 [.agg (List.map C51 f.toList)] (.tuple [.int .i64 r.1, .bool r.2]) := by
 unfold Zb4 at h
 replace h := ZE h
 refine So Tryz.func90 Y fun w0 A=>Tr<|Rq Y (Zv (cva<|ov Y) arL tZ_53<|arD fun _ => Y)<|Ra Y<|Ra Y<|Za<|Zj<|K1 1 Y<|Tr<|bE h fun x h_x h=>Rq Y (QN (ov Y) (ov Y) ZbL h_x)<|Rq Y (Zb (ov Y) Zbz<|ZG<|Xb (o := 0) (o' := ((Int.toNat 1) * 1)) (Z2 arL)<|Xs h_x)<|bE h fun y h_y h=>Rq Y (Zl (ZeH h_y)<|.cons (ov Y) (.b Y) .nil)<|R1 Z0 Y<|Rm Y<|bE h fun x2 h_x2 h=>Rq Y (.guarded ((!y) == false) Y Y Y Y fun h => QN (ov Y) (ov Y) ZbL<|gdT h_x2 h)<|Rq Y (.guarded ((!y) == false) Y Y Y Y fun h => Zb (ow Y h) Zbz<|ZG<|Xb (o := 0) (o' := ((Int.toNat 2) * 1)) (Z2 arL)<|Xs<|gdT h_x2 h)<|bE h fun y2 h_y2 h=>Rq Y (.guarded ((!y) == false) Y Y Y Y fun h => Zl (ZeH<|gdT h_y2 h)<|.cons (ow Y h) (.b Y) .nil)<|Rq Y (.guarded ((!y) == false) Y Y Y Y fun h => Z0<|ow Y h)<|Rq Y (QB (ov Y) fun hp=>ow Y<|gF hp)<|Za<|K2 1 13 Y<|If h Y (fun h=>?_) fun h=>?_
 ·
  refine K0<|Tr<|Ra Y<|Ra Y<|Za<|?_
  obtain rfl := rt h
  exact Zi (Zq Y (.two (rb Y)<|rb Y))
 ·
  refine Ze<|K1 1 Y<|Tr<|bE h fun y3 h_y3 h=>Rq Y (Zl (ZdZ h_y3)<|.cons (ov Y) (.b Y) .nil)<|Ra Y<|Ra Y<|Za<|?_
  obtain rfl := rt h
  exact Zi (Zq Y (.two (rb Y)<|rb Y))
theorem Zjy {f : Vector Int 64} {r : Bool} (h : ZdH f = some r) :
 CSpec Tryz.prog gl0 129 [.rp (List.map C51 f.toList) 0] (.bool r) := by
 unfold ZdH at h
 replace h := ZE h
 refine So Tryz.func129 Y fun w0 A=>Tr<|Ra Y<|Za<|J0 (fun j => (.inr j)) ⟨[], []⟩ h (fun h=>?_) fun h=>?_
 ·
  refine K1 0 Y<|Tr<|Rm Y<|Za<|Zf<|?_
  obtain ⟨r1, hl1, ho1⟩ := Z1 h
  refine L1 (fun i=>⟨[(0, .rp (List.map C51 f.toList) 0), (4, .int .i64 i)], []⟩) hl1 (ES []) fun n1 i h=>?_
  unfold ZbB at h
  refine Tr<|R2 Zw Y<|Za<|Zj<|If h Y (fun h=>?_) fun h=>?_
  ·
   refine Ze<|Zj<|Zf<|K2 0 4 Y<|Tr<|Rm Y<|Ra Y<|Za<|K3 0 3 4 Y<|Tr<|Rm Y<|Rm Y<|R1 XQ Y<|bE h fun x h_x h=>Rq Y (QN (ov Y) (ov Y) ZbL h_x)<|Rq Y (Zb (ov Y) Zbz<|ZG<|Xb (o := 0) (o' := (i.toNat * 1)) (Z2 arL)<|Xs h_x)<|R2 Qj Y<|Za<|K3 0 4 12 Y<|If h Y (fun h=>?_) fun h=>?_
   ·
    refine K0<|Tr<|Ra Y<|Za<|?_
    replace h := lx h ▸ ho1
    obtain rfl := rt h
    exact Zi (Zq Y (.one<|rb Y))
   ·
    exact Ze<|K2 0 4 Y<|Zs<|R2 ZB Y<|Rm Y<|Za<|⟨_, h, ES []⟩
  ·
   refine Zu<|?_
   replace h := lx h ▸ ho1
   exact ⟨_, h, ES []⟩
 ·
  replace h := elr h
  replace h := t0i h
  refine Tr<|Ra Y<|Za<|?_
  obtain rfl := rt h
  exact Zi (Zq Y (.one<|rb Y))
theorem ZiQ {f : Vector Int 64} {r : Int} (h : Zc0 f = some r) :
 CSpec Tryz.prog gl0 130 [.rp (List.map C51 f.toList) 0] (.int .i64 r) := by
 unfold Zc0 at h
 replace h := ZE h
 refine So Tryz.func130 Y fun w0 A=>Tr<|Ra Y<|Za<|K1 0 Y<|Tr<|Ra Y<|Za<|I1 (fun n=>⟨[(3, .int .i64 n)], []⟩) h (fun h=>?_) fun n h=>?_
 ·
  refine Tr<|Rm Y<|Za<|Zf<|?_
  obtain ⟨r1, hl1, ho1⟩ := Z1 h
  refine L2 (fun n2 i=>⟨[(0, .rp (List.map C51 f.toList) 0), (3, .int .i64 n2), (5, .int .i64 i)], []⟩) hl1 (ES []) fun n1 n2 i h=>?_
  unfold ZaN at h
  refine Tr<|R2 Zw Y<|Za<|Zj<|If h Y (fun h=>?_) fun h=>?_
  ·
   exact Ze<|Zj<|Zf<|K3 0 3 5 Y<|Tr<|Rm Y<|Ra Y<|Za<|K4 0 3 4 5 Y<|Zs<|Rm Y<|Rm Y<|Rm Y<|R2 ZB Y<|R1 XQ Y<|bE h fun x h_x h=>Rq Y (QN (ov Y) (ov Y) ZbL h_x)<|Rq Y (Zb (ov Y) Zbz<|ZG<|Xb (o := 0) (o' := ((i64 (i + 1)).toNat * 1)) (Z2 arL)<|Xs h_x)<|bE h fun y h_y h=>Rq Y (Zl (Zao h_y)<|.cons (ov Y) (.b Y) .nil)<|R2 ZkU Y<|Ra Y<|Za<|K3 0 3 5 Y<|Zs<|R2 ZB Y<|Rm Y<|Za<|⟨_, h, ES []⟩
  ·
   refine Zu<|?_
   replace h := lx h ▸ ho1
   exact ⟨_, h, ES []⟩
 ·
  refine Tr<|Rm Y<|Ra Y<|Za<|?_
  obtain rfl := rt h
  exact Zi (Zq Y (.one<|rb Y))
theorem ZhD {f : Vector Int 64} {r : Int} (h : ZbD f = some r) :
 CSpec Tryz.prog gl0 131 [.rp (List.map C51 f.toList) 0] (.int .i64 r) := by
 unfold ZbD at h
 replace h := ZE h
 refine So Tryz.func131 Y fun w0 A=>Tr<|Ra Y<|Za<|K1 0 Y<|Tr<|Ra Y<|Za<|I1 (fun n=>⟨[(3, .int .i64 n)], []⟩) h (fun h=>?_) fun n h=>?_
 ·
  refine Tr<|Rm Y<|Za<|Zf<|?_
  obtain ⟨r1, hl1, ho1⟩ := Z1 h
  refine L2 (fun n2 i=>⟨[(0, .rp (List.map C51 f.toList) 0), (3, .int .i64 n2), (7, .int .i64 i)], []⟩) hl1 (ES []) fun n1 n2 i h=>?_
  unfold JH at h
  refine Tr<|R2 Zw Y<|Za<|Zj<|If h Y (fun h=>?_) fun h=>?_
  ·
   refine Ze<|I1 (fun n3=>⟨[(0, .rp (List.map C51 f.toList) 0), (3, .int .i64 n3), (7, .int .i64 i)], []⟩) h (fun h=>?_) fun n3 h=>?_
   ·
    refine Zf<|K3 0 3 7 Y<|Tr<|Rm Y<|Ra Y<|Za<|K4 0 3 4 7 Y<|Tr<|Ra Y<|Za<|Zf<|?_
    obtain ⟨r2, hl2, ho2⟩ := Z1 h
    refine L2 (fun n4 k=>⟨[(0, .rp (List.map C51 f.toList) 0), (3, .int .i64 n4), (4, .int .i64 i), (5, .int .i64 k), (7, .int .i64 i)], []⟩) hl2 (ES []) fun n2 n4 k h=>?_
    unfold XS at h
    refine Zj<|Tr<|Rm Y<|R2 JP Y<|Za<|K6 0 3 4 5 7 11 Y<|If h Y (fun h=>?_) fun h=>?_
    ·
     refine Ze<|Zj<|Zf<|K5 0 3 4 5 7 Y<|Tr<|Rm Y<|R2 Zcp Y<|R2 QC Y<|Ra Y<|Za<|K6 0 3 4 5 6 7 Y<|Tr<|Rm Y<|bE h fun q h_q h=>Rq Y (ZaH (ov Y) (ov Y) h_q)<|R2 Zcp Y<|Ra Y<|Za<|K6 0 3 4 5 6 7 Y<|Tr<|Rm Y<|Rm Y<|Rm Y<|R1 XQ Y<|bE h fun x h_x h=>Rq Y (QN (ov Y) (ov Y) ZbL h_x)<|Rq Y (Zb (ov Y) Zbz<|ZG<|Xb (o := 0) (o' := (i.toNat * 1)) (Z2 arL)<|Xs h_x)<|Rm Y<|bE h fun q2 h_q2 h=>Rq Y (Zft (ov Y) (ov Y) h_q2)<|R2 Zcp Y<|R2 Z4 Y<|Rq Y (Ziy .neq (by simp) (ov Y) (ov Y) tB4)<|Za<|K6 0 3 4 5 7 30 Y<|If h Y (fun h=>?_) fun h=>?_
     ·
      exact K5 0 3 4 5 7 Y<|Zs<|Rm Y<|R2 ZkU Y<|Ra Y<|Za<|K5 0 3 4 5 7 Y<|Zs<|Rm Y<|R2 ZaF Y<|Ra Y<|Za<|⟨_, h, ES []⟩
     ·
      exact Ze<|K5 0 3 4 5 7 Y<|Zs<|Rm Y<|R2 ZaF Y<|Ra Y<|Za<|⟨_, h, ES []⟩
    ·
     refine Zu<|?_
     replace h := lx h ▸ ho2
     exact ⟨_, h, ES []⟩
   ·
    exact Zs<|R2 ZB Y<|Rm Y<|Za<|⟨_, h, ES []⟩
  ·
   refine Zu<|?_
   replace h := lx h ▸ ho1
   exact ⟨_, h, ES []⟩
 ·
  refine Tr<|Rm Y<|Ra Y<|Za<|?_
  obtain rfl := rt h
  exact Zi (Zq Y (.one<|rb Y))
theorem ZiY {f : Vector Int 64} {r : Bool} (h : ZcY f = some r) :
 CSpec Tryz.prog gl0 113 [.rp (List.map C51 f.toList) 0] (.bool r) := by
 unfold ZcY at h
 replace h := ZE h
 refine So Tryz.func113 Y fun w0 A=>Tr<|Ra Y<|Za<|Zj<|K1 0 Y<|Td md0<|D1 0 Zm Y<|bE h fun y h_y h=>Dq 1 Y (Zl (Zjy h_y)<|.cons (ov Y) (.b Y) .nil)<|D1 2 Zm Y<|Dq 3 Y (.guarded (y == false) Y Y Y Y fun h => Zm<|ov Y)<|Dq 4 Y (.guarded (y == false) Y Y Y Y fun h => XQ<|ow Y h)<|bE h fun x h_x h=>Dq 5 Y (.guarded (y == false) Y Y Y Y fun h => QN (ow Y h) (ov Y) ZbL<|gdT h_x h)<|Dq 6 Y (.guarded (y == false) Y Y Y Y fun h => Zb (ow Y h) Zbz<|ZG<|Xb (o := 0) (o' := ((Int.toNat 0) * 1)) (Z2 arL)<|Xs<|gdT h_x h)<|Dq 7 Y (.guarded (y == false) Y Y Y Y fun h => Zm<|ov Y)<|bE h fun y2 h_y2 h=>Dq 8 Y (.guarded (y == false) Y Y Y Y fun h => Zl (ZdZ<|gdT h_y2 h)<|.cons (ow Y h) (.b Y) .nil)<|bE h fun q h_q h=>Dq 9 Y (.guarded (y == false) Y Y Y Y fun h => ZaL (ow Y h) (ov Y)<|gdT h_q h)<|bE h fun x2 h_x2 h=>Dq 10 Y (.guarded (y == false) Y Y Y Y fun h => QN (og (v := gv_frame_syncs) (k := .u16) (f := C51) (by simp [gl0]) fun _=>Y) (ow Y h) Zse<|gdT h_x2 h)<|Dq 11 Y (.guarded (y == false) Y Y Y Y fun h => Zb (ow Y h) Zbz<|ZG<|Xb (o := 0) (o' := (q.toNat * 1)) (Z2 arL)<|Xs<|gdT h_x2 h)<|Dq 12 Y (.guarded (y == false) Y Y Y Y fun h => QC (ow Y h)<|ow Y h)<|Dq 13 Y (QB (ov Y) fun hp=>ow Y<|gF hp)<|D1 14 Zm Y<|Dq 15 Y (.guarded ((y || (!decide (x = x2))) == false) Y Y Y Y fun h => Zm<|ov Y)<|Dq 16 Y (.guarded ((y || (!decide (x = x2))) == false) Y Y Y Y fun h => XQ<|ow Y h)<|bE h fun x3 h_x3 h=>Dq 17 Y (.guarded ((y || (!decide (x = x2))) == false) Y Y Y Y fun h => QN (ow Y h) (ov Y) ZbL<|gdT h_x3 h)<|Dq 18 Y (.guarded ((y || (!decide (x = x2))) == false) Y Y Y Y fun h => Zb (ow Y h) Zbz<|ZG<|Xb (o := 0) (o' := ((Int.toNat 61) * 1)) (Z2 arL)<|Xs<|gdT h_x3 h)<|bE h fun y3 h_y3 h=>Dq 19 Y (.guarded ((y || (!decide (x = x2))) == false) Y Y Y Y fun h => Zl (Zao<|gdT h_y3 h)<|.cons (ow Y h) (.b Y) .nil)<|Dq 20 Y (.guarded ((y || (!decide (x = x2))) == false) Y Y Y Y fun h => Zm<|ov Y)<|bE h fun y4 h_y4 h=>Dq 21 Y (.guarded ((y || (!decide (x = x2))) == false) Y Y Y Y fun h => Zl (ZiQ<|gdT h_y4 h)<|.cons (ow Y h) (.b Y) .nil)<|Dq 22 Y (.guarded ((y || (!decide (x = x2))) == false) Y Y Y Y fun h => QC (ow Y h)<|ow Y h)<|Dq 23 Y (QB (ov Y) fun hp=>ow Y<|gF hp)<|Dd<|K2 0 27 Y<|If h Y (fun h=>?_) fun h=>?_
 ·
  refine K0<|Tr<|Ra Y<|Za<|?_
  obtain rfl := rt h
  exact Zi (Zq Y (.one<|rb Y))
 ·
  refine Ze<|J0 (fun j => (.inr j)) ⟨[(0, .rp (List.map C51 f.toList) 0)], []⟩ h (fun h=>?_) fun h=>?_
  ·
   refine K1 0 Y<|Tr<|Ra Y<|Za<|Zf<|?_
   obtain ⟨r1, hl1, ho1⟩ := Z1 h
   refine L1 (fun i=>⟨[(0, .rp (List.map C51 f.toList) 0), (3, .int .i64 i)], []⟩) hl1 (ES []) fun n1 i h=>?_
   unfold ZaI at h
   refine Zj<|Tr<|Rm Y<|R2 Zw Y<|Za<|K3 0 3 29 Y<|If h Y (fun h=>?_) fun h=>?_
   ·
    refine Ze<|Zj<|Zf<|K2 0 3 Y<|Tr<|Rm Y<|Rm Y<|R1 XQ Y<|bE h fun x4 h_x4 h=>Rq Y (QN (ov Y) (ov Y) ZbL h_x4)<|Rq Y (Zb (ov Y) Zbz<|ZG<|Xb (o := 0) (o' := (i.toNat * 1)) (Z2 arL)<|Xs h_x4)<|bE h fun y5 h_y5 h=>Rq Y (Zl (ZeH h_y5)<|.cons (ov Y) (.b Y) .nil)<|R1 Z0 Y<|Za<|K3 0 3 38 Y<|If h Y (fun h=>?_) fun h=>?_
    ·
     refine K0<|Tr<|Ra Y<|Za<|?_
     replace h := lx h ▸ ho1
     obtain rfl := rt h
     exact Zi (Zq Y (.one<|rb Y))
    ·
     exact Ze<|K2 0 3 Y<|Zs<|Rm Y<|R2 ZB Y<|Ra Y<|Za<|⟨_, h, ES []⟩
   ·
    refine Zu<|?_
    replace h := lx h ▸ ho1
    exact ⟨_, h, ES []⟩
  ·
   replace h := elr h
   replace h := t0i h
   refine Td md0<|D1 0 Zm Y<|D1 1 XQ Y<|bE h fun x5 h_x5 h=>Dq 2 Y (QN (ov Y) (ov Y) ZbL h_x5)<|Dq 3 Y (Zb (ov Y) Zbz<|ZG<|Xb (o := 0) (o' := ((Int.toNat 62) * 1)) (Z2 arL)<|Xs h_x5)<|bE h fun y6 h_y6 h=>Dq 4 Y (Zl (Zao h_y6)<|.cons (ov Y) (.b Y) .nil)<|bE h fun q2 h_q2 h=>Dq 5 Y (ZaH (ov Y) (ov Y) h_q2)<|D1 6 Zm Y<|D1 7 XQ Y<|bE h fun x6 h_x6 h=>Dq 8 Y (QN (ov Y) (ov Y) ZbL h_x6)<|Dq 9 Y (Zb (ov Y) Zbz<|ZG<|Xb (o := 0) (o' := ((Int.toNat 63) * 1)) (Z2 arL)<|Xs h_x6)<|bE h fun y7 h_y7 h=>Dq 10 Y (Zl (Zao h_y7)<|.cons (ov Y) (.b Y) .nil)<|D2 11 Zl0 Y<|D1 12 Zm Y<|bE h fun y8 h_y8 h=>Dq 13 Y (Zl (ZhD h_y8)<|.cons (ov Y) (.b Y) .nil)<|D2 14 Z4 Y<|D1 15 Z6 Y<|Dd<|?_
   obtain rfl := rt h
   exact Zi (Zq Y (.one<|rb Y))
theorem ZiW {f : Vector Int 64} {r : Bool} (h : Zc1 f = some r) :
 CSpec Tryz.prog gl0 91 [.agg (List.map C51 f.toList)] (.bool r) := by
 unfold Zc1 at h
 replace h := ZE h
 refine So Tryz.func91 Y fun w0 A=>Tr<|Rq Y (Zv (cva<|ov Y) arL tZ_53<|arD fun _ => Y)<|Ra Y<|Za<|K2 1 2 Y<|Tr<|bE h fun y h_y h=>Rq Y (Zl (ZiY h_y)<|.cons (ov Y) (.b Y) .nil)<|Ra Y<|Za<|?_
 obtain rfl := rt h
 exact Zi (Zq Y (.one<|rb Y))
theorem ZgD {f : Vector Int 64} {number : Int} {r : Bool} (h : Jc f number = some r) :
 CSpec Tryz.prog gl0 63 [.agg (List.map C51 f.toList), .int .i64 number] (.bool r) := by
 unfold Jc at h
 replace h := ZE h
 refine So Tryz.func63 Y fun w0 A=>Tr<|Rq Y (Zv (cva<|ov Y) arL tZ_53<|arD fun _ => Y)<|Ra Y<|Za<|K2 1 2 Y<|Tr<|Rq Y (Zh (ov Y) Zik (XA<|Z2 arL) arL)<|bE h fun y h_y h=>Rq Y (Zl (Zib h_y)<|.cons (ov Y) (.aggB<|arD fun _ => Y) .nil)<|Rm Y<|Rq Y (Zr (ov Y) Y)<|Rq Y (Zr (ov Y) Y)<|Ra Y<|Ra Y<|Za<|K3 1 2 5 Y<|Tr<|Rq Y (Zh (ov Y) Zik (XA<|Z2 arL) arL)<|bE h fun y2 h_y2 h=>Rq Y (Zl (ZiW h_y2)<|.cons (ov Y) (.aggB<|arD fun _ => Y) .nil)<|Rm Y<|Rq Y (.guarded (y2 == true) Y Y Y Y fun h => Zm<|ov Y)<|Rq Y (.guarded (y2 == true) Y Y Y Y fun h => Zm<|ov Y)<|Rq Y (.guarded (y2 == true) Y Y Y Y fun h => Z4 (ow Y h)<|ow Y h)<|Rq Y (Ql (ov Y) fun hp=>ow Y<|gT hp)<|Ra Y<|Za<|?_
 obtain rfl := rt h
 exact Zi (Zq Y (.one<|rb Y))
theorem Zdj {s : List Int} {f : Int → Option Bool} {r : Int} {f_f : FuncId} {f_c : List AV} (f_d : f_c.all datB = true) (f_h : ∀ (z0 : Int) z, f z0 = some z → CSpec Tryz.prog gl0 f_f ([.int .i64 z0] ++ f_c) (.bool z)) (h : Xf s f = some r) :
 CSpec Tryz.prog gl0 114 [.sl 3 (List.map R3 s), .fn f_f f_c] (.int .i64 r) := by
 unfold Xf at h
 replace h := ZE h
 refine So Tryz.func114 Y fun w0 A=>Tr<|Ra Y<|Za<|J0 (fun j => (.inr j)) ⟨[], []⟩ h (fun h=>?_) fun h=>?_
 ·
  refine K2 0 1 Y<|Tr<|Rm Y<|Rl tZ_3 Zea Y<|Rm Y<|Za<|Zf<|?_
  obtain ⟨r1, hl1, ho1⟩ := Z1 h
  refine L1 (fun i=>⟨[(0, .sl 3 (List.map R3 s)), (1, .fn f_f f_c), (7, .int .i64 (s.length : Int)), (8, .int .i64 i)], []⟩) hl1 (ES []<|sd 0 Y Y<|sr 1 Y (rFn<|rld f_d)<|sd 7 Y Y<|sd 8 Y Y sn) fun n1 i h=>?_
  unfold Qg at h
  refine Tr<|R2 Zw Y<|Za<|Zj<|If h Y (fun h=>?_) fun h=>?_
  ·
   refine Ze<|Zj<|Zf<|K4 0 1 7 8 Y<|Tr<|Rm Y<|Ra Y<|Za<|K5 0 1 5 7 8 Y<|Tr<|Rm Y<|Rm Y<|Rm Y<|bE h fun x h_x h=>Rq Y (Zx (ov Y) (ov Y) Zea h_x)<|Rq Y (Zb (ov Y) tS3 Y)<|bE h fun y h_y h=>Rq Y (JZ (ov Y) f_d (f_h _ _ h_y)<|.cons (ov Y) (.b Y) .nil)<|Za<|K6 0 1 5 7 8 16 Y<|If h Y (fun h=>?_) fun h=>?_
   ·
    refine K1 5 Y<|Tr<|Rm Y<|Ra Y<|Za<|?_
    replace h := lx h ▸ ho1
    obtain rfl := rt h
    exact Zi (Zq Y (.one<|rb Y))
   ·
    exact Ze<|K4 0 1 7 8 Y<|Zs<|R2 ZB Y<|Rm Y<|Za<|⟨_, h, ES []<|sd 0 Y Y<|sr 1 Y (rFn<|rld f_d)<|sd 7 Y Y<|sd 8 Y Y sn⟩
  ·
   refine Zu<|?_
   replace h := lx h ▸ ho1
   exact ⟨_, h, ES []⟩
 ·
  replace h := elr h
  replace h := t0i h
  refine Tr<|Ra Y<|Za<|?_
  obtain rfl := rt h
  exact Zi (Zq Y (.one<|rb Y))
theorem JI {s : List Int} {f : Int → Option Bool} {r : Bool} {f_f : FuncId} {f_c : List AV} (f_d : f_c.all datB = true) (f_h : ∀ (z0 : Int) z, f z0 = some z → CSpec Tryz.prog gl0 f_f ([.int .i64 z0] ++ f_c) (.bool z)) (h : Qh s f = some r) :
 CSpec Tryz.prog gl0 92 [.sl 3 (List.map R3 s), .fn f_f f_c] (.bool r) := by
 unfold Qh at h
 replace h := ZE h
 refine So Tryz.func92 Y fun w0 A=>Tr<|Ra Y<|Za<|Tr<|Rm Y<|Rm Y<|bE h fun y h_y h=>Rq Y (Zl (Zdj f_d f_h h_y)<|.cons (ov Y) (.b Y)<|.cons (ov Y) (Dat.fnC<|.refl fun x hx => .b<|List.all_eq_true.1 f_d x hx) .nil)<|R2 JP Y<|Ra Y<|Za<|?_
 obtain rfl := rt h
 exact Zi (Zq Y (.one<|rb Y))
theorem Zhd {s : Int} {c0 : Int} {c1 : Int} {r : Bool} (h : Zb6 s c0 c1 = some r) :
 CSpec Tryz.prog gl0 93 [.int .i64 s, .rp [.int .i64 c0] 0, .rp [.int .i64 c1] 0] (.bool r) := by
 unfold Zb6 at h
 replace h := ZE h
 refine So Tryz.func93 Y fun w0 A=>Tr<|Ra Y<|Za<|Tr<|Rm Y<|Rq Y (Zb (ov Y) tS3 Y)<|R2 Z4 Y<|Rm Y<|Rq Y (.guarded ((decide (s = c0)) == false) Y Y Y Y fun h => Zm<|ov Y)<|Rq Y (.guarded ((decide (s = c0)) == false) Y Y Y Y fun h => Zb (ov Y) tS3 Y)<|Rq Y (.guarded ((decide (s = c0)) == false) Y Y Y Y fun h => Z4 (ow Y h)<|ow Y h)<|Rq Y (QB (ov Y) fun hp=>ow Y<|gF hp)<|Ra Y<|Za<|?_
 obtain rfl := rt h
 exact Zi (Zq Y (.one<|rb Y))
theorem ZeU {r_ : api_Rest} {a : Int} {b : Int} {r : Bool} (h : Za9 r_ a b = some r) :
 CSpec Tryz.prog gl0 64 [.agg ((.int .i64 r_.Number) :: ((List.map C51 r_.Frame.toList) ++ (((List.map C3 r_.States.toList) ++ ((.bool r_.Sound) :: (.int .i64 r_.Copies) :: (.bool r_.Conflict) :: []))))), .int .i64 a, .int .i64 b] (.bool r) := by
 unfold Za9 at h
 replace h := ZE h
 refine So Tryz.func64 Y fun w0 A=>Tr<|Rq Y (Zv (cva<|ov Y) ln0 tZ_56 al3)<|Rq Y (Zv (cvs (ov Y)<|Zp Y) Y tZ_3 Y)<|Rq Y (Zv (cvs (ov Y)<|Zp Y) Y tZ_3 Y)<|Ra Y<|Za<|K4 3 4 5 6 Y<|Tr<|Rq Y (Zc (ov Y) ZgK)<|bE h fun l h_l h=>Rq Y (Zqx (f := C3) (ov Y) Zme tZ_3 at5 Y on on h_l)<|Rq Y (Qz<|.cons (ov Y)<|.cons (ov Y) .nil)<|bE h fun y h_y h=>Rq Y (Zl (JI Y (fun z0 _ hz=>Zhd hz) h_y)<|.cons (ov Y) (.b Y)<|.cons (ov Y) (.fnC<|.cons (.b Y)<|.cons (.b Y) .nil) .nil)<|Ra Y<|Za<|?_
 obtain rfl := rt h
 exact Zi (Zq Y (.one<|rb Y))
theorem ZhE {s : Int} {c0 : Int} {r : Bool} (h : ZcK s c0 = some r) :
 CSpec Tryz.prog gl0 94 [.int .i64 s, .rp [.int .i64 c0] 0] (.bool r) := by
 unfold ZcK at h
 replace h := ZE h
 refine So Tryz.func94 Y fun w0 A=>Tr<|Ra Y<|Za<|Tr<|Rm Y<|Rq Y (Zb (ov Y) tS3 Y)<|R2 QC Y<|Ra Y<|Za<|?_
 obtain rfl := rt h
 exact Zi (Zq Y (.one<|rb Y))
theorem Zi4 {r_ : api_Rest} {state : Int} {r : Bool} (h : Zc4 r_ state = some r) :
 CSpec Tryz.prog gl0 65 [.agg ((.int .i64 r_.Number) :: ((List.map C51 r_.Frame.toList) ++ (((List.map C3 r_.States.toList) ++ ((.bool r_.Sound) :: (.int .i64 r_.Copies) :: (.bool r_.Conflict) :: []))))), .int .i64 state] (.bool r) := by
 unfold Zc4 at h
 replace h := ZE h
 refine So Tryz.func65 Y fun w0 A=>Tr<|Rq Y (Zv (cva<|ov Y) ln0 tZ_56 al3)<|Rq Y (Zv (cvs (ov Y)<|Zp Y) Y tZ_3 Y)<|Ra Y<|Za<|K3 2 3 4 Y<|Tr<|Rq Y (Zc (ov Y) ZgK)<|bE h fun l h_l h=>Rq Y (Zqx (f := C3) (ov Y) Zme tZ_3 at5 Y on on h_l)<|Rq Y (Qz<|.cons (ov Y) .nil)<|bE h fun y h_y h=>Rq Y (Zl (JI Y (fun z0 _ hz=>ZhE hz) h_y)<|.cons (ov Y) (.b Y)<|.cons (ov Y) (.fnC<|.cons (.b Y) .nil) .nil)<|R1 Z0 Y<|Ra Y<|Za<|?_
 obtain rfl := rt h
 exact Zi (Zq Y (.one<|rb Y))
theorem ZfB {r_ : api_Rest} {r : Int} (h : Jj r_ = some r) :
 CSpec Tryz.prog gl0 32 [.agg ((.int .i64 r_.Number) :: ((List.map C51 r_.Frame.toList) ++ (((List.map C3 r_.States.toList) ++ ((.bool r_.Sound) :: (.int .i64 r_.Copies) :: (.bool r_.Conflict) :: [])))))] (.int .i64 r) := by
 unfold Jj at h
 replace h := ZE h
 refine So Tryz.func32 Y fun w0 A=>Tr<|Rq Y (Zv (cva<|ov Y) ln0 tZ_56 al3)<|Ra Y<|Za<|Zj<|K1 1 Y<|Tr<|Rq Y (Zc (ov Y) JW)<|Rq Y (Zb (ov Y) tS3<|ZG at4)<|bE h fun y h_y h=>Rq Y (Zl (ZdU h_y)<|.cons (ov Y) (.b Y)<|.cons (ov Y) (.b Y)<|.cons (ov Y) (.b Y) .nil)<|R1 Z0 Y<|Za<|K2 1 8 Y<|If h Y (fun h=>?_) fun h=>?_
 ·
  refine K0<|Tr<|Ra Y<|Za<|?_
  obtain rfl := rt h
  exact Zi (Zq Y (.one<|rb Y))
 ·
  refine Ze<|J0 (fun j => (.inr j)) ⟨[(1, .rp ((.int .i64 r_.Number) :: ((List.map C51 r_.Frame.toList) ++ (((List.map C3 r_.States.toList) ++ ((.bool r_.Sound) :: (.int .i64 r_.Copies) :: (.bool r_.Conflict) :: []))))) 0)], []⟩ h (fun h=>?_) fun h=>?_
  ·
   refine K1 1 Y<|Tr<|Rq Y (Zc (ov Y) ZgK)<|Rq Y (Zh (ov Y) Zr7 (XA at5) arL)<|Rm Y<|Za<|Zf<|?_
   obtain ⟨r1, hl1, ho1⟩ := Z1 h
   refine L1 (fun i=>⟨[(1, .rp ((.int .i64 r_.Number) :: ((List.map C51 r_.Frame.toList) ++ (((List.map C3 r_.States.toList) ++ ((.bool r_.Sound) :: (.int .i64 r_.Copies) :: (.bool r_.Conflict) :: []))))) 0), (10, .agg (List.map C3 r_.States.toList)), (11, .int .i64 i)], []⟩) hl1 (ES []) fun n1 i h=>?_
   unfold QA at h
   refine Tr<|R2 Zw Y<|Za<|Zj<|If h Y (fun h=>?_) fun h=>?_
   ·
    refine Ze<|Zj<|Zf<|K3 1 10 11 Y<|Tr<|Rm Y<|bE h fun x h_x h=>Rq Y (Zep (ov Y) (ov Y) Zme tS3 h_x)<|Ra Y<|Ra Y<|Za<|Zj<|K5 1 3 4 10 11 Y<|Tr<|Rm Y<|bE h fun y2 h_y2 h=>Rq Y (Zl (ZdU h_y2)<|.cons (ov Y) (.b Y)<|.cons (ov Y) (.b Y)<|.cons (ov Y) (.b Y) .nil)<|R1 Z0 Y<|Za<|K6 1 3 4 10 11 17 Y<|If h Y (fun h=>?_) fun h=>?_
    ·
     refine K0<|Tr<|Ra Y<|Za<|?_
     replace h := lx h ▸ ho1
     obtain rfl := rt h
     exact Zi (Zq Y (.one<|rb Y))
    ·
     refine Ze<|K5 1 3 4 10 11 Y<|Tr<|Rm Y<|R2 Z4 Y<|Rm Y<|Rq Y (.guarded ((decide (x = 0)) == true) Y Y Y Y fun h => Zm<|ov Y)<|Rq Y (.guarded ((decide (x = 0)) == true) Y Y Y Y fun h => Zc (ov Y) Zd6)<|bE h fun x2 h_x2 h=>Rq Y (.guarded ((decide (x = 0)) == true) Y Y Y Y fun h => QN (ow Y h) (ow Y h) ZbL<|gdT h_x2 h)<|Rq Y (.guarded ((decide (x = 0)) == true) Y Y Y Y fun h => Zb (ow Y h) Zbz<|ZG<|Xb (o := 1) (o' := (i.toNat * 1)) at6<|Xs<|gdT h_x2 h)<|Rq Y (.guarded ((decide (x = 0)) == true) Y Y Y Y fun h => QC (ow Y h)<|ov Y)<|Rq Y (Ql (ov Y) fun hp=>ow Y<|gT hp)<|Rm Y<|Rq Y (.guarded (((decide (x = 0)) && (!decide (x2 = 0))) == false) Y Y Y Y fun h => Zm<|ov Y)<|Rq Y (.guarded (((decide (x = 0)) && (!decide (x2 = 0))) == false) Y Y Y Y fun h => Zc (ov Y) Zd6)<|bE h fun x3 h_x3 h=>Rq Y (.guarded (((decide (x = 0)) && (!decide (x2 = 0))) == false) Y Y Y Y fun h => QN (ow Y h) (ow Y h) ZbL<|gdT h_x3 h)<|Rq Y (.guarded (((decide (x = 0)) && (!decide (x2 = 0))) == false) Y Y Y Y fun h => Zb (ow Y h) Zbz<|ZG<|Xb (o := 1) (o' := (i.toNat * 1)) at6<|Xs<|gdT h_x3 h)<|Rq Y (.guarded (((decide (x = 0)) && (!decide (x2 = 0))) == false) Y Y Y Y fun h => Qj (ow Y h)<|ov Y)<|Rq Y (QB (ov Y) fun hp=>ow Y<|gF hp)<|Za<|K4 1 10 11 33 Y<|If h Y (fun h=>?_) fun h=>?_
     ·
      refine K0<|Tr<|Ra Y<|Za<|?_
      replace h := lx h ▸ ho1
      obtain rfl := rt h
      exact Zi (Zq Y (.one<|rb Y))
     ·
      exact Ze<|K3 1 10 11 Y<|Zs<|R2 ZB Y<|Rm Y<|Za<|⟨_, h, ES []⟩
   ·
    refine Zu<|?_
    replace h := lx h ▸ ho1
    exact ⟨_, h, ES []⟩
  ·
   replace h := elr h
   replace h := t0i h
   refine Zj<|Zf<|Tr<|Rq Y (Zc (ov Y) Zfq)<|Rq Y (Zb (ov Y) tS4<|ZG at7)<|Rm Y<|Rq Y (.guarded (r_.Sound == true) Y Y Y Y fun h => Zc (ov Y) Zd6)<|Rq Y (.guarded (r_.Sound == true) Y Y Y Y fun h => Zh (ow Y h) Zik (XA at6) arL)<|Rq Y (.guarded (r_.Sound == true) Y Y Y Y fun h => Zc (ov Y) JW)<|Rq Y (.guarded (r_.Sound == true) Y Y Y Y fun h => Zb (ow Y h) tS3<|ZG at4)<|bE h fun y3 h_y3 h=>Rq Y (.guarded (r_.Sound == true) Y Y Y Y fun h => Zl (ZgD<|gdT h_y3 h)<|.cons (ow Y h) (.aggB<|arD fun _ => Y)<|.cons (ow Y h) (.b Y) .nil)<|Rq Y (.guarded (r_.Sound == true) Y Y Y Y fun h => Z0<|ow Y h)<|Rq Y (.guarded (r_.Sound == true) Y Y Y Y fun h => Zm<|ow Y h)<|Rq Y (.guarded2 ((r_.Sound == true) && ((!y3) == false)) Y Y Y Y fun h => Zh (ov Y) ZiZ (XA<|Z2 ln0) ln0)<|bE h fun y4 h_y4 h=>Rq Y (.guarded2 ((r_.Sound == true) && ((!y3) == false)) Y Y Y Y fun h => Zl (ZeU<|gdT h_y4 h)<|.cons (ow Y h) (.aggB al3)<|.cons (ov Y) (.b Y)<|.cons (ov Y) (.b Y) .nil)<|Rq Y (.guarded (r_.Sound == true) Y Y Y Y fun h => QB (ow Y h) fun hp=>ow Y<|gA h<|gF hp)<|Rq Y (Ql (ov Y) fun hp=>ow Y<|gT hp)<|Ra Y<|Za<|K2 1 35 Y<|If h Y (fun h=>?_) fun h=>?_
   ·
    refine K0<|Tr<|Ra Y<|Za<|?_
    obtain rfl := rt h
    exact Zi (Zq Y (.one<|rb Y))
   ·
    refine K1 1 Y<|Tr<|Rq Y (Zc (ov Y) Zfq)<|Rq Y (Zb (ov Y) tS4<|ZG at7)<|R1 Z0 Y<|Rm Y<|Rq Y (.guarded ((!r_.Sound) == true) Y Y Y Y fun h => Zh (ov Y) ZiZ (XA<|Z2 ln0) ln0)<|bE h fun y5 h_y5 h=>Rq Y (.guarded ((!r_.Sound) == true) Y Y Y Y fun h => Zl (ZeU<|gdT h_y5 h)<|.cons (ow Y h) (.aggB al3)<|.cons (ov Y) (.b Y)<|.cons (ov Y) (.b Y) .nil)<|Rq Y (Ql (ov Y) fun hp=>ow Y<|gT hp)<|Ra Y<|Za<|K2 1 50 Y<|If h Y (fun h=>?_) fun h=>?_
    ·
     refine K0<|Tr<|Ra Y<|Za<|?_
     obtain rfl := rt h
     exact Zi (Zq Y (.one<|rb Y))
    ·
     refine K1 1 Y<|Tr<|Rq Y (Zc (ov Y) Zkv)<|Rq Y (Zb (ov Y) tS3<|ZG at8)<|R2 Zw Y<|Rm Y<|Rq Y (.guarded ((decide (r_.Copies < 0)) == false) Y Y Y Y fun h => Zc (ov Y) Zkv)<|Rq Y (.guarded ((decide (r_.Copies < 0)) == false) Y Y Y Y fun h => Zb (ow Y h) tS3<|ZG at8)<|Rq Y (.guarded ((decide (r_.Copies < 0)) == false) Y Y Y Y fun h => Z4 (ow Y h)<|ov Y)<|Rq Y (.guarded ((decide (r_.Copies < 0)) == false) Y Y Y Y fun h => Zm<|ow Y h)<|Rq Y (.guarded2 (((decide (r_.Copies < 0)) == false) && ((decide (r_.Copies = 0)) == true)) Y Y Y Y fun h => Zc (ov Y) Zfq)<|Rq Y (.guarded2 (((decide (r_.Copies < 0)) == false) && ((decide (r_.Copies = 0)) == true)) Y Y Y Y fun h => Zb (ow Y h) tS4<|ZG at7)<|Rq Y (.guarded ((decide (r_.Copies < 0)) == false) Y Y Y Y fun h => Ql (ow Y h) fun hp=>ow Y<|gA h<|gT hp)<|Rq Y (.guarded ((decide (r_.Copies < 0)) == false) Y Y Y Y fun h => Zm<|ow Y h)<|Rq Y (.guarded2 (((decide (r_.Copies < 0)) == false) && (((decide (r_.Copies = 0)) && r_.Sound) == true)) Y Y Y Y fun h => Zh (ov Y) ZiZ (XA<|Z2 ln0) ln0)<|bE h fun y6 h_y6 h=>Rq Y (.guarded2 (((decide (r_.Copies < 0)) == false) && (((decide (r_.Copies = 0)) && r_.Sound) == true)) Y Y Y Y fun h => Zl (Zi4<|gdT h_y6 h)<|.cons (ow Y h) (.aggB al3)<|.cons (ov Y) (.b Y) .nil)<|Rq Y (.guarded ((decide (r_.Copies < 0)) == false) Y Y Y Y fun h => Ql (ow Y h) fun hp=>ow Y<|gA h<|gT hp)<|Rq Y (QB (ov Y) fun hp=>ow Y<|gF hp)<|Ra Y<|Za<|K2 1 58 Y<|If h Y (fun h=>?_) fun h=>?_
     ·
      refine K0<|Tr<|Ra Y<|Za<|?_
      obtain rfl := rt h
      exact Zi (Zq Y (.one<|rb Y))
     ·
      refine K1 1 Y<|Tr<|Rq Y (Zc (ov Y) Zpa)<|Rq Y (Zb (ov Y) tS4<|ZG at9)<|Rm Y<|Rq Y (.guarded (r_.Conflict == true) Y Y Y Y fun h => Zc (ov Y) Zfq)<|Rq Y (.guarded (r_.Conflict == true) Y Y Y Y fun h => Zb (ow Y h) tS4<|ZG at7)<|Rq Y (Ql (ov Y) fun hp=>ow Y<|gT hp)<|Ra Y<|Za<|K1 75 Y<|If h Y (fun h=>?_) fun h=>?_
      ·
       refine K0<|Tr<|Ra Y<|Za<|?_
       obtain rfl := rt h
       exact Zi (Zq Y (.one<|rb Y))
      ·
       refine Ze<|K0<|Tr<|Ra Y<|Za<|?_
       obtain rfl := rt h
       exact Zi (Zq Y (.one<|rb Y))
theorem Zfu {l : List api_Rest} {r : Int} (h : Jq l = some r) :
 CSpec Tryz.prog gl0 13 [.sl 56 (List.map R56 l)] (.int .i64 r) := by
 unfold Jq at h
 replace h := ZE h
 refine So Tryz.func13 Y fun w0 A=>Tr<|Ra Y<|Za<|Zj<|K1 0 Y<|Tr<|Rm Y<|Rl tZ_56 ZaE Y<|R2 Qj Y<|Za<|K2 0 9 Y<|If h Y (fun h=>?_) fun h=>?_
 ·
  refine K0<|Tr<|Ra Y<|Za<|?_
  obtain rfl := rt h
  exact Zi (Zq Y (.one<|rb Y))
 ·
  refine Ze<|J0 (fun j => (.inr j)) ⟨[(0, .sl 56 (List.map R56 l))], []⟩ h (fun h=>?_) fun h=>?_
  ·
   refine K1 0 Y<|Tr<|Rm Y<|Rl tZ_56 ZaE Y<|Rm Y<|Za<|Zf<|?_
   obtain ⟨r1, hl1, ho1⟩ := Z1 h
   refine L1 (fun i=>⟨[(0, .sl 56 (List.map R56 l)), (10, .sl 56 (List.map R56 l)), (11, .int .i64 (l.length : Int)), (12, .int .i64 i)], []⟩) hl1 (ES []) fun n1 i h=>?_
   unfold Qe at h
   refine Tr<|R2 Zw Y<|Za<|Zj<|If h Y (fun h=>?_) fun h=>?_
   ·
    refine Ze<|Zj<|Zf<|K4 0 10 11 12 Y<|Tr<|bE h fun x h_x h=>Rq Y (Zx (ov Y) (ov Y) ZaE h_x)<|Rq Y (Zh (ov Y) ZiZ (XA<|Z2 ln0) ln0)<|Rx Y (Zt (row := (.int .i64 0) :: ((List.map C51 (Vector.replicate 64 0).toList) ++ (((List.map C3 (Vector.replicate 64 0).toList) ++ ((.bool false) :: (.int .i64 0) :: (.bool false) :: []))))) 0 Y Zsf (by kernel_rfl)<|by exact Eq.symm (Eq.trans (b := 132) ln0 tZ_56.symm))<|Rx Y (Zo (ov Y) (ov Y) (Zk ZiZ ln0) Y Y Y (ZkO (Z2 ln0) ln0) (Zd al1)<|Zkh<|Eq.trans ln0<|Eq.symm ln0)<|Za<|K5 0 4 10 11 12 Y<|Tr<|Rq Y (ZL (ov Y) Y Y Y ZiZ (XA<|Z2 ln0) ln0 (hns := ns2))<|bE h fun y h_y h=>Rq Y (Zl (ZfB h_y)<|.cons (ov Y) (.aggB al3) .nil)<|Ra Y<|Za<|K5 0 5 10 11 12 Y<|Tr<|Rm Y<|R2 QC Y<|Za<|K6 0 5 10 11 12 19 Y<|If h Y (fun h=>?_) fun h=>?_
    ·
     refine K1 5 Y<|Tr<|Rm Y<|Ra Y<|Za<|?_
     replace h := lx h ▸ ho1
     obtain rfl := rt h
     exact Zi (Zq Y (.one<|rb Y))
    ·
     exact Ze<|K4 0 10 11 12 Y<|Zs<|R2 ZB Y<|Rm Y<|Za<|⟨_, h, ES []⟩
   ·
    refine Zu<|?_
    replace h := lx h ▸ ho1
    exact ⟨_, h, ES []⟩
  ·
   replace h := elr h
   replace h := t0i h
   refine J0 (fun j => (.inr j)) ⟨[], []⟩ h (fun h=>?_) fun h=>?_
   ·
    refine Tr<|Ra Y<|Za<|Zf<|?_
    obtain ⟨r2, hl2, ho2⟩ := Z1 h
    refine L1 (fun i2=>⟨[(0, .sl 56 (List.map R56 l)), (6, .int .i64 i2)], []⟩) hl2 (ES []) fun n2 i2 h=>?_
    unfold Qc at h
    refine Zj<|Tr<|Rm Y<|Rm Y<|Rl tZ_56 ZaE Y<|R2 Zw Y<|Za<|K3 0 6 25 Y<|If h Y (fun h=>?_) fun h=>?_
    ·
     refine Ze<|Zj<|Zf<|K2 0 6 Y<|Td md0<|D1 0 Zm Y<|D1 1 Zm Y<|bE h fun x2 h_x2 h=>Dq 2 Y (Zx (ov Y) (ov Y) ZaE h_x2)<|Dq 3 Y (Zc (ov Y) JW)<|Dq 4 Y (Zb (ov Y) tS3<|ZG at4)<|D1 5 Zm Y<|D1 6 Zm Y<|D2 7 ZaF Y<|bE h fun x3 h_x3 h=>Dq 8 Y (Zx (ov Y) (ov Y) ZaE h_x3)<|Dq 9 Y (Zc (ov Y) JW)<|Dq 10 Y (Zb (ov Y) tS3<|ZG at4)<|D2 11 ZaZ Y<|Dd<|K3 0 6 39 Y<|If h Y (fun h=>?_) fun h=>?_
     ·
      refine K0<|Tr<|Ra Y<|Za<|?_
      replace h := lx h ▸ ho2
      obtain rfl := rt h
      exact Zi (Zq Y (.one<|rb Y))
     ·
      exact Ze<|K2 0 6 Y<|Zs<|Rm Y<|R2 ZB Y<|Ra Y<|Za<|⟨_, h, ES []⟩
    ·
     refine Zu<|?_
     replace h := lx h ▸ ho2
     exact ⟨_, h, ES []⟩
   ·
    replace h := elr h
    replace h := t0i h
    refine Tr<|Ra Y<|Za<|?_
    obtain rfl := rt h
    exact Zi (Zq Y (.one<|rb Y))
theorem Zid {m : api_Map} {r : (List api_Cell)} (h : Zb5 m = some r) :
 CSpec Tryz.prog gl0 33 [.agg [.int .i64 m.Version, .sl 45 (List.map R45 m.Params)]] (.sl 85 (List.map R85 r)) := by
 unfold Zb5 at h
 replace h := ZE h
 refine So Tryz.func33 Y fun w0 A=>Tr<|Rq Y (Zv (cva<|ov Y) Y tZ_24 Y)<|Ra Y<|Za<|K1 1 Y<|Tr<|Ra Y<|Za<|I1 (fun out=>⟨[(3, .own 0 out.length)], [some ⟨85, List.map R85 out⟩]⟩) h (fun h=>?_) fun out h=>?_
 ·
  refine Tr<|Rq Y (Zc (ov Y) ZaA)<|Rq Y (Zb (ov Y) Ze4 Y)<|Rl tZ_45 ZbX Y<|Rm Y<|Za<|Zf<|?_
  obtain ⟨r1, hl1, ho1⟩ := Z1 h
  refine L2 (fun out2 i=>⟨[(3, .own 0 out2.length), (7, .sl 45 (List.map R45 m.Params)), (8, .int .i64 (m.Params.length : Int)), (9, .int .i64 i)], [some ⟨85, List.map R85 out2⟩]⟩) hl1 (ES [none]) fun n1 out2 i h=>?_
  unfold Zdb at h
  refine Tr<|R2 Zw Y<|Za<|Zj<|If h Y (fun h=>?_) fun h=>?_
  ·
   exact Ze<|Zj<|Zf<|K4 3 7 8 9 Y<|Tr<|Rm Y<|bE h fun x h_x h=>Rq Y (Zx (ov Y) (ov Y) ZbX h_x)<|Rq Y (Zh (ov Y) Q7 Y Y)<|Rx Y (Zt (row := [_, _, _, _, _, _, _, _]) 1 Y Zju Y tZ_45)<|Ra Y<|Rx Y (Zo (ov Y) (ov Y) (Zk Q7 Y) Y Y Y (Nat.le_of_ble_eq_true Y) (Zd Y) Y)<|Za<|K6 3 4 5 7 8 9 Y<|Zs<|Rm Y<|Rm Y<|Rq Y (ZL (ov Y) Y Y Y Q7 Y Y)<|bE h fun y h_y h=>Rq Y (Zl (Zb7 h_y)<|.cons (ov Y) (.b Y)<|.cons (ov Y) (.aggB Y) .nil)<|bE h fun l h_l h=>Rx Y (Zds (ov Y) (Qp (ov Y) tZ_85) Zbq Y Y (fun _=>Zd Y) Y h_l)<|Ra Y<|Za<|K4 3 7 8 9 Y<|Zs<|R2 ZB Y<|Rm Y<|Za<|⟨_, h, ES [some 0]⟩
  ·
   refine Zu<|?_
   replace h := lx h ▸ ho1
   exact ⟨_, h, ES [some 0]⟩
 ·
  refine Tr<|Rm Y<|Ra Y<|Za<|?_
  obtain rfl := rt h
  exact Zi (Zq Y (.one<|.tmp Y<|View.ownM Y Y D85))
theorem Zh9 {m : api_Map} {r : (List api_Cell) × Int} (h : Za1 m = some r) :
 CSpec Tryz.prog gl0 14 [.agg [.int .i64 m.Version, .sl 45 (List.map R45 m.Params)]] (.tuple [.sl 85 (List.map R85 r.1), .int .i64 r.2]) := by
 unfold Za1 at h
 replace h := ZE h
 refine So Tryz.func14 Y fun w0 A=>Tr<|Rq Y (Zv (cva<|ov Y) Y tZ_24 Y)<|Ra Y<|Ra Y<|Za<|Zj<|K1 1 Y<|Tr<|Rq Y (Zh (ov Y) Zf6 Y Y)<|bE h fun y h_y h=>Rq Y (Zl (ZeS h_y)<|.cons (ov Y) (.aggB Y) .nil)<|Rm Y<|Rq Y (Zr (ov Y) Y)<|Rq Y (Zr (ov Y) Y)<|Ra Y<|Ra Y<|Za<|K2 1 5 Y<|Tr<|Rm Y<|R2 QC Y<|Za<|K3 1 5 12 Y<|If h Y (fun h=>?_) fun h=>?_
 ·
  refine K1 5 Y<|Tr<|Rm Y<|Ra Y<|Ra Y<|Za<|?_
  obtain rfl := rt h
  exact Zi (Zq Y (.two (.tmp Y<|View.nils 85)<|rb Y))
 ·
  refine Ze<|K1 1 Y<|Tr<|Rq Y (Zh (ov Y) Zf6 Y Y)<|bE h fun y2 h_y2 h=>Rq Y (Zl (Zid h_y2)<|.cons (ov Y) (.aggB Y) .nil)<|Ra Y<|Ra Y<|Za<|?_
  obtain rfl := rt h
  exact Zi (Zq Y (.two (rb Y)<|rb Y))
theorem Ze7 {p : api_Param} {cells : List api_Cell} {first : Int} {r : (List Int)} (h : XZ p cells first = some r) :
 CSpec Tryz.prog gl0 34 [.agg [.str p.Name, .int .i64 p.Kind, .sl 121 (List.map Z9 p.Parts), .int .i64 p.First, .int .i64 p.Every, .int .i64 p.Times, .int .i64 p.Step, .sl 9 (List.map R9 p.Names)], .sl 85 (List.map R85 cells), .int .i64 first] (.sl 3 (List.map R3 r)) := by
 unfold XZ at h
 replace h := ZE h
 refine So Tryz.func34 Y fun w0 A=>Tr<|Rq Y (Zv (cva<|ov Y) Y tZ_45 Y)<|Ra Y<|Za<|K3 1 2 3 Y<|Tr<|Ra Y<|Za<|I1 (fun out=>⟨[(7, .own 0 out.length)], [some ⟨3, List.map R3 out⟩]⟩) h (fun h=>?_) fun out h=>?_
 ·
  refine Tr<|Rm Y<|Rl tZ_85 Zbq Y<|Rm Y<|Za<|Zf<|?_
  obtain ⟨r1, hl1, ho1⟩ := Z1 h
  refine L2 (fun out2 i=>⟨[(2, .int .i64 first), (3, .rp [.str p.Name, .int .i64 p.Kind, .sl 121 (List.map Z9 p.Parts), .int .i64 p.First, .int .i64 p.Every, .int .i64 p.Times, .int .i64 p.Step, .sl 9 (List.map R9 p.Names)] 0), (7, .own 0 out2.length), (10, .sl 85 (List.map R85 cells)), (11, .int .i64 (cells.length : Int)), (12, .int .i64 i)], [some ⟨3, List.map R3 out2⟩]⟩) hl1 (ES [none]) fun n1 out2 i h=>?_
  unfold Q5 at h
  refine Tr<|R2 Zw Y<|Za<|Zj<|If h Y (fun h=>?_) fun h=>?_
  ·
   exact Ze<|Zj<|Zf<|K6 2 3 7 10 11 12 Y<|Tr<|bE h fun x h_x h=>Rq Y (Zx (ov Y) (ov Y) Zbq h_x)<|Rq Y (Zh (ov Y) Ze6 Y Y)<|Rx Y (Zt (row := [_, _, _, _]) 1 Y ZkN Y tZ_85)<|Rx Y (Zo (ov Y) (ov Y) (Zk Ze6 Y) Y Y Y (Nat.le_of_ble_eq_true Y) (Zd Y) Y)<|Za<|K7 2 3 7 9 10 11 12 Y<|ZgH (cw := md0) (by kernel_rfl)<|D1 0 Zm Y<|D1 1 Zm Y<|Dq 2 Y (Zg (ov Y) Y Y ZnY)<|Dq 3 Y (Zn (ov Y) Y Y Y tS3 Y)<|D2 4 ZB Y<|D2 5 Zck Y<|Dq 6 Y (Zg (ov Y) Y Y ZqL)<|Dq 7 Y (Zn (ov Y) Y Y Y tS3 Y)<|Dq 8 Y (Zc (ov Y) ZcE)<|Dq 9 Y (Zb (ov Y) tS3 Y)<|bE h fun q h_q h=>Dq 10 Y (ZaL (ov Y) (ov Y) h_q)<|D2 11 Zck Y<|Dq 12 Y (Zc (ov Y) ZcE)<|Dq 13 Y (Zb (ov Y) tS3 Y)<|bE h fun q2 h_q2 h=>Dq 14 Y (Zcz (ov Y) (ov Y) h_q2)<|D2 15 ZB Y<|Zmy 16 (.sl 3<|List.map R3 ([(i64 ((i64 (64 * (i64 (first + x.Frame)))) + q2))] : List Int)) Y (by kernel_rfl) Y Y (JO Zea (.cons (cvs (ov Y)<|Zp Y) Y (.cons (.b Y) .nil) .nil) Y Y)<|bE h fun l h_l h=>Do 17 Y (Qf (ov Y) (Qp (ov Y) tZ_3) Zea Y Y Y (fun _=>Zd Y) Y h_l)<|D1 18 Z6 Y<|Dd<|K6 2 3 7 10 11 12 Y<|Zs<|R2 ZB Y<|Rm Y<|Za<|⟨_, h, ES [some 0]⟩
  ·
   refine Zu<|?_
   replace h := lx h ▸ ho1
   exact ⟨_, h, ES [some 0]⟩
 ·
  refine Tr<|Rm Y<|Ra Y<|Za<|?_
  obtain rfl := rt h
  exact Zi (Zq Y (.one<|.tmp Y<|View.ownM Y Y D3))
theorem Zfk {v : Int} {r : Int} (h : Xq v = some r) :
 CSpec Tryz.prog gl0 132 [.int .i64 v] (.int .i64 r) := by
 unfold Xq at h
 replace h := ZE h
 refine So Tryz.func132 Y fun w0 A=>Tr<|Ra Y<|Za<|Tr<|Rm Y<|Ra Y<|Za<|?_
 obtain rfl := rt h
 exact Zi (Zq Y (.one<|rb Y))
theorem ZeK {raw : Int} {c0 : Int} {r : Int × Bool} (h : Zbf raw c0 = some r) :
 CSpec Tryz.prog gl0 134 [.int .i64 raw, .rp [.int .i64 c0] 0] (.tuple [.int .i64 r.1, .bool r.2]) := by
 unfold Zbf at h
 replace h := ZE h
 refine So Tryz.func134 Y fun w0 A=>Tr<|Ra Y<|Ra Y<|Za<|Td md0<|D1 0 Zm Y<|D1 1 Zm Y<|Dq 2 Y (Zb (ov Y) tS3 Y)<|D2 3 ZaZ Y<|D1 4 Z6 Y<|D1 5 Z6 Y<|Dd<|?_
 obtain rfl := rt h
 exact Zi (Zq Y (.two (rb Y)<|rb Y))
theorem ZaS {high : Int} {r : layout_number} (h : QG high = some r) :
 CSpec Tryz.prog gl0 133 [.int .i64 high, .rp [.fn 132 []] 0] (.agg [.int .i64 r.low, .int .i64 r.high, .fn r.encode.f r.encode.c, .fn r.decode.f r.decode.c]) := by
 unfold QG at h
 replace h := ZE h
 refine So Tryz.func133 Y fun w0 A=>Tr<|Rq Y (Zv (cvs (ov Y)<|Zp Y) Y tZ_3 Y)<|Rx Y (Zt (row := [_, _, _, _]) 0 Y ZeT Y tZ_165)<|Za<|K3 1 2 3 Y<|Tr<|Rq Y (Zb (ov Y) tS3 Y)<|Rq Y (Zb (ov Y) Zqy Y)<|Rq Y (Qz<|.cons (ov Y) .nil)<|Rq Y (ZA (ys := [_, _, _, _]) Zks Zki ZeT (.cons (cvs (ov Y)<|Zp Y)<|.cons (cvs (ov Y)<|Zp Y)<|.cons (cvs (ov Y)<|Zp Y)<|.cons (cvs (ov Y)<|Zp Y) .nil) Y)<|Rx Y (Zo (ov Y) (ov Y) (Zk JN Y) Y Y Y (Nat.le_of_ble_eq_true Y) (Zd Y) Y)<|Za<|?_
 obtain rfl := rt h
 exact Zi (Zq Y (.one<|.agg Y Y Y Y JN Y Y<|.cons (Dat.view<|.b Y)<|.cons (Dat.view<|.b Y)<|.cons (Dat.view .fn)<|.cons (Dat.view<|.fnC<|.cons (.b Y) .nil) .nil))
theorem ZK {high : Int} {r : layout_number} (h : QG high = some r) : Zbe r.encode ∧ Zbh r.decode := by
  have key : Zfo (fun r => Zbe r.encode ∧ Zbh r.decode) (QG high) := by
    unfold QG
    repeat' (first | exact Zdn | with_reducible refine Zfx ?_ ?_ | with_reducible refine Zd1 fun _ _ => ?_ | with_reducible refine Zh7 ?_)
    all_goals first | exact Za7 ⟨⟨rfl, fun z0 _ hz => Zfk hz⟩, ⟨rfl, fun z0 _ hz => ZeK hz⟩⟩
  exact key r h
theorem Zfe {c1 : Int} {r : layout_number} (h : Xr c1 = some r) :
 CSpec Tryz.prog gl0 135 [.rp [.fn 133 [.rp [.fn 132 []] 0]] 0, .rp [.int .i64 c1] 0] (.agg [.int .i64 r.low, .int .i64 r.high, .fn r.encode.f r.encode.c, .fn r.decode.f r.decode.c]) := by
 unfold Xr at h
 replace h := ZE h
 refine So Tryz.func135 Y fun w0 A=>Tr<|Rx Y (Zt (row := [_, _, _, _]) 0 Y ZeT Y tZ_165)<|Za<|Tr<|Rq Y (Zb (ov Y) ZmF Y)<|Rq Y (Zb (ov Y) tS3 Y)<|R2 Zck Y<|R2 ZaF Y<|bE h fun y h_y h=>Rq Y (JZ (ov Y) Y (ZaS h_y)<|.cons (ov Y) (.b Y) .nil)<|Rx Y (Zo (ov Y) (ov Y) (Zk JN Y) Y Y Y (Nat.le_of_ble_eq_true Y) (Zd Y) Y)<|Za<|?_
 obtain rfl := rt h
 exact Zi (Zq Y (.one<|.agg Y Y Y Y JN Y Y<|.cons (Dat.view<|.b Y)<|.cons (Dat.view<|.b Y)<|.cons (Dat.view<|Dat.fnC<|.refl fun x hx => .b<|List.all_eq_true.1 (((ZK h_y).1)).1 x hx)<|.cons (Dat.view<|Dat.fnC<|.refl fun x hx => .b<|List.all_eq_true.1 (((ZK h_y).2)).1 x hx) .nil))
theorem X0 {c1 : Int} {r : layout_number} (h : Xr c1 = some r) : Zbe r.encode ∧ Zbh r.decode := by
  have key : Zfo (fun r => Zbe r.encode ∧ Zbh r.decode) (Xr c1) := by
    unfold Xr
    repeat' (first | exact Zdn | with_reducible refine Zfx ?_ ?_ | with_reducible refine Zd1 fun _ _ => ?_ | with_reducible refine Zh7 ?_)
    all_goals first | exact Za7 ⟨((ZK (by assumption)).1), ((ZK (by assumption)).2)⟩
  exact key r h
theorem Zfr  {r : layout_number} (h : Xt  = some r) :
 CSpec Tryz.prog gl0 136 [.rp [.fn 133 [.rp [.fn 132 []] 0]] 0] (.agg [.int .i64 r.low, .int .i64 r.high, .fn r.encode.f r.encode.c, .fn r.decode.f r.decode.c]) := by
 unfold Xt at h
 replace h := ZE h
 refine So Tryz.func136 Y fun w0 A=>Tr<|Rx Y (Zt (row := [_, _, _, _]) 0 Y ZeT Y tZ_165)<|Za<|Tr<|Rq Y (Zb (ov Y) ZmF Y)<|bE h fun y h_y h=>Rq Y (JZ (ov Y) Y (ZaS h_y)<|.cons (ov Y) (.b Y) .nil)<|Rx Y (Zo (ov Y) (ov Y) (Zk JN Y) Y Y Y (Nat.le_of_ble_eq_true Y) (Zd Y) Y)<|Za<|?_
 obtain rfl := rt h
 exact Zi (Zq Y (.one<|.agg Y Y Y Y JN Y Y<|.cons (Dat.view<|.b Y)<|.cons (Dat.view<|.b Y)<|.cons (Dat.view<|Dat.fnC<|.refl fun x hx => .b<|List.all_eq_true.1 (((ZK h_y).1)).1 x hx)<|.cons (Dat.view<|Dat.fnC<|.refl fun x hx => .b<|List.all_eq_true.1 (((ZK h_y).2)).1 x hx) .nil))
theorem X5  {r : layout_number} (h : Xt  = some r) : Zbe r.encode ∧ Zbh r.decode := by
  have key : Zfo (fun r => Zbe r.encode ∧ Zbh r.decode) (Xt ) := by
    unfold Xt
    repeat' (first | exact Zdn | with_reducible refine Zfx ?_ ?_ | with_reducible refine Zd1 fun _ _ => ?_ | with_reducible refine Zh7 ?_)
    all_goals first | exact Za7 ⟨((ZK (by assumption)).1), ((ZK (by assumption)).2)⟩
  exact key r h
theorem ZfE {c1 : api_Param} {r : layout_number} (h : Xv c1 = some r) :
 CSpec Tryz.prog gl0 137 [.rp [.fn 133 [.rp [.fn 132 []] 0]] 0, .rp [.str c1.Name, .int .i64 c1.Kind, .sl 121 (List.map Z9 c1.Parts), .int .i64 c1.First, .int .i64 c1.Every, .int .i64 c1.Times, .int .i64 c1.Step, .sl 9 (List.map R9 c1.Names)] 0] (.agg [.int .i64 r.low, .int .i64 r.high, .fn r.encode.f r.encode.c, .fn r.decode.f r.decode.c]) := by
 unfold Xv at h
 replace h := ZE h
 refine So Tryz.func137 Y fun w0 A=>Tr<|Rx Y (Zt (row := [_, _, _, _]) 0 Y ZeT Y tZ_165)<|Za<|Tr<|Rq Y (Zb (ov Y) ZmF Y)<|Rq Y (Zc (ov Y) Zb1)<|Rq Y (Zb (ov Y) Zg0 Y)<|Rl tZ_9 Zeh Y<|R2 ZaF Y<|bE h fun y h_y h=>Rq Y (JZ (ov Y) Y (ZaS h_y)<|.cons (ov Y) (.b Y) .nil)<|Rx Y (Zo (ov Y) (ov Y) (Zk JN Y) Y Y Y (Nat.le_of_ble_eq_true Y) (Zd Y) Y)<|Za<|?_
 obtain rfl := rt h
 exact Zi (Zq Y (.one<|.agg Y Y Y Y JN Y Y<|.cons (Dat.view<|.b Y)<|.cons (Dat.view<|.b Y)<|.cons (Dat.view<|Dat.fnC<|.refl fun x hx => .b<|List.all_eq_true.1 (((ZK h_y).1)).1 x hx)<|.cons (Dat.view<|Dat.fnC<|.refl fun x hx => .b<|List.all_eq_true.1 (((ZK h_y).2)).1 x hx) .nil))
theorem X4 {c1 : api_Param} {r : layout_number} (h : Xv c1 = some r) : Zbe r.encode ∧ Zbh r.decode := by
  have key : Zfo (fun r => Zbe r.encode ∧ Zbh r.decode) (Xv c1) := by
    unfold Xv
    repeat' (first | exact Zdn | with_reducible refine Zfx ?_ ?_ | with_reducible refine Zd1 fun _ _ => ?_ | with_reducible refine Zh7 ?_)
    all_goals first | exact Za7 ⟨((ZK (by assumption)).1), ((ZK (by assumption)).2)⟩
  exact key r h
theorem ZeJ {v : Int} {c0 : Int} {r : Int} (h : Zbd v c0 = some r) :
 CSpec Tryz.prog gl0 139 [.int .i64 v, .rp [.int .i64 c0] 0] (.int .i64 r) := by
 unfold Zbd at h
 replace h := ZE h
 refine So Tryz.func139 Y fun w0 A=>Tr<|Ra Y<|Za<|Tr<|Rm Y<|Rq Y (Zb (ov Y) tS3 Y)<|R2 Zck Y<|R2 ZaF Y<|R2 Zcp Y<|Ra Y<|Za<|?_
 obtain rfl := rt h
 exact Zi (Zq Y (.one<|rb Y))
theorem ZeC {raw : Int} {c0 : Int} {r : Int × Bool} (h : XE raw c0 = some r) :
 CSpec Tryz.prog gl0 140 [.int .i64 raw, .rp [.int .i64 c0] 0] (.tuple [.int .i64 r.1, .bool r.2]) := by
 unfold XE at h
 replace h := ZE h
 refine So Tryz.func140 Y fun w0 A=>Tr<|Ra Y<|Ra Y<|Za<|Zj<|K2 0 1 Y<|Tr<|Rm Y<|Rq Y (Zb (ov Y) tS3 Y)<|R2 JP Y<|Za<|K3 0 1 7 Y<|If h Y (fun h=>?_) fun h=>?_
 ·
  refine K2 0 1 Y<|Zs<|Rm Y<|Rq Y (Zb (ov Y) tS3 Y)<|R2 Zck Y<|R2 ZaF Y<|Ra Y<|Za<|K1 0 Y<|Tr<|Rm Y<|Ra Y<|Ra Y<|Za<|?_
  obtain rfl := rt h
  exact Zi (Zq Y (.two (rb Y)<|rb Y))
 ·
  refine Ze<|K1 0 Y<|Tr<|Rm Y<|Ra Y<|Ra Y<|Za<|?_
  obtain rfl := rt h
  exact Zi (Zq Y (.two (rb Y)<|rb Y))
theorem ZfP {c0 : Int} {r : layout_number} (h : Xu c0 = some r) :
 CSpec Tryz.prog gl0 138 [.rp [.int .i64 c0] 0] (.agg [.int .i64 r.low, .int .i64 r.high, .fn r.encode.f r.encode.c, .fn r.decode.f r.decode.c]) := by
 unfold Xu at h
 replace h := ZE h
 refine So Tryz.func138 Y fun w0 A=>Tr<|Rx Y (Zt (row := [_, _, _, _]) 0 Y ZeT Y tZ_165)<|Za<|Tr<|Rq Y (Zb (ov Y) tS3 Y)<|Rq Y (ZqB (ov Y) Y)<|Rq Y (Zb (ov Y) tS3 Y)<|R2 ZaF Y<|Rq Y (Qz<|.cons (ov Y) .nil)<|Rq Y (Qz<|.cons (ov Y) .nil)<|Rq Y (ZA (ys := [_, _, _, _]) Zks Zki ZeT (.cons (cvs (ov Y)<|Zp Y)<|.cons (cvs (ov Y)<|Zp Y)<|.cons (cvs (ov Y)<|Zp Y)<|.cons (cvs (ov Y)<|Zp Y) .nil) Y)<|Rx Y (Zo (ov Y) (ov Y) (Zk JN Y) Y Y Y (Nat.le_of_ble_eq_true Y) (Zd Y) Y)<|Za<|?_
 obtain rfl := rt h
 exact Zi (Zq Y (.one<|.agg Y Y Y Y JN Y Y<|.cons (Dat.view<|.b Y)<|.cons (Dat.view<|.b Y)<|.cons (Dat.view<|.fnC<|.cons (.b Y) .nil)<|.cons (Dat.view<|.fnC<|.cons (.b Y) .nil) .nil))
theorem X1 {c0 : Int} {r : layout_number} (h : Xu c0 = some r) : Zbe r.encode ∧ Zbh r.decode := by
  have key : Zfo (fun r => Zbe r.encode ∧ Zbh r.decode) (Xu c0) := by
    unfold Xu
    repeat' (first | exact Zdn | with_reducible refine Zfx ?_ ?_ | with_reducible refine Zd1 fun _ _ => ?_ | with_reducible refine Zh7 ?_)
    all_goals first | exact Za7 ⟨⟨rfl, fun z0 _ hz => ZeJ hz⟩, ⟨rfl, fun z0 _ hz => ZeC hz⟩⟩
  exact key r h
theorem Zex {v : Int} {c0 : Int} {r : Int} (h : XB v c0 = some r) :
 CSpec Tryz.prog gl0 142 [.int .i64 v, .rp [.int .i64 c0] 0] (.int .i64 r) := by
 unfold XB at h
 replace h := ZE h
 refine So Tryz.func142 Y fun w0 A=>Tr<|Ra Y<|Za<|Zj<|K2 0 1 Y<|Tr<|Rm Y<|R2 Zw Y<|Za<|K3 0 1 5 Y<|If h Y (fun h=>?_) fun h=>?_
 ·
  refine K2 0 1 Y<|Tr<|Rq Y (Zb (ov Y) tS3 Y)<|Rm Y<|R2 ZaF Y<|Ra Y<|Za<|?_
  obtain rfl := rt h
  exact Zi (Zq Y (.one<|rb Y))
 ·
  refine Ze<|K1 0 Y<|Tr<|Rm Y<|Ra Y<|Za<|?_
  obtain rfl := rt h
  exact Zi (Zq Y (.one<|rb Y))
theorem Zev {raw : Int} {c0 : Int} {r : Int × Bool} (h : XF raw c0 = some r) :
 CSpec Tryz.prog gl0 143 [.int .i64 raw, .rp [.int .i64 c0] 0] (.tuple [.int .i64 r.1, .bool r.2]) := by
 unfold XF at h
 replace h := ZE h
 refine So Tryz.func143 Y fun w0 A=>Tr<|Ra Y<|Ra Y<|Za<|Zj<|K2 0 1 Y<|Tr<|Rm Y<|Rq Y (Zb (ov Y) tS3 Y)<|R2 JP Y<|Za<|K3 0 1 7 Y<|If h Y (fun h=>?_) fun h=>?_
 ·
  refine K2 0 1 Y<|Td md0<|Dq 0 Y (Zb (ov Y) tS3 Y)<|D1 1 Zm Y<|D2 2 ZaF Y<|D1 3 Zm Y<|Dq 4 Y (Zb (ov Y) tS3 Y)<|D2 5 Qj Y<|D1 6 Z6 Y<|D1 7 Z6 Y<|Dd<|?_
  obtain rfl := rt h
  exact Zi (Zq Y (.two (rb Y)<|rb Y))
 ·
  refine Ze<|K1 0 Y<|Tr<|Rm Y<|Ra Y<|Ra Y<|Za<|?_
  obtain rfl := rt h
  exact Zi (Zq Y (.two (rb Y)<|rb Y))
theorem Zfw {c0 : Int} {r : layout_number} (h : Xw c0 = some r) :
 CSpec Tryz.prog gl0 141 [.rp [.int .i64 c0] 0] (.agg [.int .i64 r.low, .int .i64 r.high, .fn r.encode.f r.encode.c, .fn r.decode.f r.decode.c]) := by
 unfold Xw at h
 replace h := ZE h
 refine So Tryz.func141 Y fun w0 A=>Tr<|Rx Y (Zt (row := [_, _, _, _]) 0 Y ZeT Y tZ_165)<|Za<|Tr<|Rq Y (Zb (ov Y) tS3 Y)<|R2 ZaF Y<|Rq Y (Zb (ov Y) tS3 Y)<|R2 ZaF Y<|Rq Y (Qz<|.cons (ov Y) .nil)<|Rq Y (Qz<|.cons (ov Y) .nil)<|Rq Y (ZA (ys := [_, _, _, _]) Zks Zki ZeT (.cons (cvs (ov Y)<|Zp Y)<|.cons (cvs (ov Y)<|Zp Y)<|.cons (cvs (ov Y)<|Zp Y)<|.cons (cvs (ov Y)<|Zp Y) .nil) Y)<|Rx Y (Zo (ov Y) (ov Y) (Zk JN Y) Y Y Y (Nat.le_of_ble_eq_true Y) (Zd Y) Y)<|Za<|?_
 obtain rfl := rt h
 exact Zi (Zq Y (.one<|.agg Y Y Y Y JN Y Y<|.cons (Dat.view<|.b Y)<|.cons (Dat.view<|.b Y)<|.cons (Dat.view<|.fnC<|.cons (.b Y) .nil)<|.cons (Dat.view<|.fnC<|.cons (.b Y) .nil) .nil))
theorem X3 {c0 : Int} {r : layout_number} (h : Xw c0 = some r) : Zbe r.encode ∧ Zbh r.decode := by
  have key : Zfo (fun r => Zbe r.encode ∧ Zbh r.decode) (Xw c0) := by
    unfold Xw
    repeat' (first | exact Zdn | with_reducible refine Zfx ?_ ?_ | with_reducible refine Zd1 fun _ _ => ?_ | with_reducible refine Zh7 ?_)
    all_goals first | exact Za7 ⟨⟨rfl, fun z0 _ hz => Zex hz⟩, ⟨rfl, fun z0 _ hz => Zev hz⟩⟩
  exact key r h
theorem ZeN {v : Int} {r : Int} (h : XC v = some r) :
 CSpec Tryz.prog gl0 145 [.int .i64 v] (.int .i64 r) := by
 unfold XC at h
 replace h := ZE h
 refine So Tryz.func145 Y fun w0 A=>Tr<|Ra Y<|Za<|K1 0 Y<|Tr<|Ra Y<|Za<|I1 (fun raw=>⟨[(3, .int .i64 raw)], []⟩) h (fun h=>?_) fun raw h=>?_
 ·
  refine Tr<|Ra Y<|Za<|Zf<|?_
  obtain ⟨r1, hl1, ho1⟩ := Z1 h
  refine L3 (fun v2 raw2 shift=>⟨[(0, .int .i64 v2), (3, .int .i64 raw2), (4, .int .i64 shift)], []⟩) hl1 (ES []) fun n1 v2 raw2 shift h=>?_
  unfold Qd at h
  refine Zj<|Tr<|Rm Y<|R2 Qj Y<|Za<|K4 0 3 4 6 Y<|If h Y (fun h=>?_) fun h=>?_
  ·
   exact Ze<|Zj<|Zf<|K3 0 3 4 Y<|Tr<|Rm Y<|Rm Y<|bE h fun q h_q h=>Rq Y (ZaL (ov Y) (ov Y) h_q)<|Rm Y<|bE h fun q2 h_q2 h=>Rq Y (ZaH (ov Y) (ov Y) h_q2)<|R2 Zl0 Y<|Ra Y<|Za<|K3 0 3 4 Y<|Zs<|Rm Y<|bE h fun q3 h_q3 h=>Rq Y (Zcz (ov Y) (ov Y) h_q3)<|Ra Y<|Za<|K3 0 3 4 Y<|Zs<|Rm Y<|R2 ZB Y<|Ra Y<|Za<|⟨_, h, ES []⟩
  ·
   refine Zu<|?_
   replace h := lx h ▸ ho1
   exact ⟨_, h, ES []⟩
 ·
  refine Tr<|Rm Y<|Ra Y<|Za<|?_
  obtain rfl := rt h
  exact Zi (Zq Y (.one<|rb Y))
theorem Zhb {raw : Int} {r : Int × Bool} (h : ZaY raw = some r) :
 CSpec Tryz.prog gl0 146 [.int .i64 raw] (.tuple [.int .i64 r.1, .bool r.2]) := by
 unfold ZaY at h
 replace h := ZE h
 refine So Tryz.func146 Y fun w0 A=>Tr<|Ra Y<|Ra Y<|Za<|K1 0 Y<|Tr<|Ra Y<|Ra Y<|Za<|I2 (fun v ok=>⟨[(4, .int .i64 v), (5, .bool ok)], []⟩) h (fun h=>?_) fun v ok h=>?_
 ·
  refine Tr<|Ra Y<|Za<|Zf<|?_
  obtain ⟨r1, hl1, ho1⟩ := Z1 h
  refine L3 (fun v2 ok2 shift=>⟨[(0, .int .i64 raw), (4, .int .i64 v2), (5, .bool ok2), (6, .int .i64 shift)], []⟩) hl1 (ES []) fun n1 v2 ok2 shift h=>?_
  unfold Jm at h
  refine Zj<|Tr<|Rm Y<|R2 JP Y<|Za<|K5 0 4 5 6 9 Y<|If h Y (fun h=>?_) fun h=>?_
  ·
   exact Ze<|Zj<|Zf<|K4 0 4 5 6 Y<|Tr<|Rm Y<|Rm Y<|bE h fun q h_q h=>Rq Y (Zft (ov Y) (ov Y) h_q)<|R2 Zcp Y<|Ra Y<|Za<|K5 0 4 5 6 7 Y<|Zs<|Rm Y<|R2 Zck Y<|Rm Y<|R2 ZB Y<|Rm Y<|Rm Y<|Rq Y (.guarded (ok2 == true) Y Y Y Y fun h => Zm<|ov Y)<|Rq Y (.guarded (ok2 == true) Y Y Y Y fun h => Zw (ow Y h)<|ov Y)<|Rq Y (Ql (ov Y) fun hp=>ow Y<|gT hp)<|Ra Y<|Ra Y<|Za<|K4 0 4 5 6 Y<|Zs<|Rm Y<|R2 ZaF Y<|Ra Y<|Za<|⟨_, h, ES []⟩
  ·
   refine Zu<|?_
   replace h := lx h ▸ ho1
   exact ⟨_, h, ES []⟩
 ·
  refine Tr<|Rm Y<|Rm Y<|Ra Y<|Ra Y<|Za<|?_
  obtain rfl := rt h
  exact Zi (Zq Y (.two (rb Y)<|rb Y))
theorem Zfv {c0 : Int} {r : layout_number} (h : QW c0 = some r) :
 CSpec Tryz.prog gl0 144 [.rp [.int .i64 c0] 0] (.agg [.int .i64 r.low, .int .i64 r.high, .fn r.encode.f r.encode.c, .fn r.decode.f r.decode.c]) := by
 unfold QW at h
 replace h := ZE h
 refine So Tryz.func144 Y fun w0 A=>Tr<|Rx Y (Zt (row := [_, _, _, _]) 0 Y ZeT Y tZ_165)<|Za<|Tr<|Ra Y<|Za<|I1 (fun high=>⟨[(1, .ptr 0 1 0 0), (2, .int .i64 high)], [some ⟨165, [[.int .i64 0, .int .i64 0, .lit .nilFunc, .lit .nilFunc]]⟩]⟩) h (fun h=>?_) fun high h=>?_
 ·
  refine Tr<|Rq Y (Zb (ov Y) tS3 Y)<|bE h fun q h_q h=>Rq Y (Zcz (ov Y) (ov Y) h_q)<|Rm Y<|Za<|Zf<|?_
  obtain ⟨r1, hl1, ho1⟩ := Z1 h
  refine L2 (fun high2 i=>⟨[(1, .ptr 0 1 0 0), (2, .int .i64 high2), (4, .int .i64 q), (5, .int .i64 i)], [some ⟨165, [[.int .i64 0, .int .i64 0, .lit .nilFunc, .lit .nilFunc]]⟩]⟩) hl1 (ES [some 0]) fun n1 high2 i h=>?_
  unfold ZaG at h
  refine Tr<|R2 Zw Y<|Za<|Zj<|If h Y (fun h=>?_) fun h=>?_
  ·
   exact Ze<|Zj<|Zf<|K4 1 2 4 5 Y<|Zs<|Rm Y<|R2 Zck Y<|Ra Y<|Za<|K4 1 2 4 5 Y<|Zs<|R2 ZB Y<|Rm Y<|Za<|⟨_, h, ES [some 0]⟩
  ·
   refine Zu<|?_
   replace h := lx h ▸ ho1
   exact ⟨_, h, ES [some 0]⟩
 ·
  refine Tr<|Rm Y<|R2 ZaF Y<|Rq Y (ZA (ys := [_, _, _, _]) Zks Zki ZeT (.cons (cvs (ov Y)<|Zp Y)<|.cons (cvs (ov Y)<|Zp Y)<|.cons (cvs (ov Y)<|Zp Y)<|.cons (cvs (ov Y)<|Zp Y) .nil) Y)<|Rx Y (Zo (ov Y) (ov Y) (Zk JN Y) Y Y Y (Nat.le_of_ble_eq_true Y) (Zd Y) Y)<|Za<|?_
  obtain rfl := rt h
  exact Zi (Zq Y (.one<|.agg Y Y Y Y JN Y Y<|.cons (Dat.view<|.b Y)<|.cons (Dat.view<|.b Y)<|.cons (Dat.view .fn)<|.cons (Dat.view .fn) .nil))
theorem X2 {c0 : Int} {r : layout_number} (h : QW c0 = some r) : Zbe r.encode ∧ Zbh r.decode := by
  have key : Zfo (fun r => Zbe r.encode ∧ Zbh r.decode) (QW c0) := by
    unfold QW
    repeat' (first | exact Zdn | with_reducible refine Zfx ?_ ?_ | with_reducible refine Zd1 fun _ _ => ?_ | with_reducible refine Zh7 ?_)
    all_goals first | exact Za7 ⟨⟨rfl, fun z0 _ hz => ZeN hz⟩, ⟨rfl, fun z0 _ hz => Zhb hz⟩⟩
  exact key r h
theorem ZgL {p : api_Param} {r : layout_number} (h : Q1 p = some r) :
 CSpec Tryz.prog gl0 115 [.agg [.str p.Name, .int .i64 p.Kind, .sl 121 (List.map Z9 p.Parts), .int .i64 p.First, .int .i64 p.Every, .int .i64 p.Times, .int .i64 p.Step, .sl 9 (List.map R9 p.Names)]] (.agg [.int .i64 r.low, .int .i64 r.high, .fn r.encode.f r.encode.c, .fn r.decode.f r.decode.c]) := by
 unfold Q1 at h
 replace h := ZE h
 refine So Tryz.func115 Y fun w0 A=>Tr<|Rq Y (Zv (cva<|ov Y) Y tZ_45 Y)<|Rx Y (Zt (row := [_, _, _, _]) 0 Y ZeT Y tZ_165)<|Za<|K2 1 2 Y<|Tr<|Rq Y (Zh (ov Y) Q7 Y Y)<|bE h fun y h_y h=>Rq Y (Zl (Zcs h_y)<|.cons (ov Y) (.aggB Y) .nil)<|Rx Y (Zt (row := [_]) 1 Y tZ3 Y tZ_3)<|Rx Y (Zo (ov Y) (ov Y) (ZO tS3) Y Y Y (Nat.le_of_ble_eq_true Y) (Zd Y) Y)<|Za<|K3 1 2 3 Y<|Tr<|Rq Y (Zn (ov Y) Y Y Y tS3 Y)<|R2 ZaF Y<|bE h fun q h_q h=>Rq Y (ZaH (ov Y) (ov Y) h_q)<|Rx Y (Zt (row := [_]) 2 Y tZ3 Y tZ_3)<|Rx Y (Zo (ov Y) (ov Y) (ZO tS3) Y Y Y (Nat.le_of_ble_eq_true Y) (Zd Y) Y)<|Za<|K4 1 2 3 4 Y<|Tr<|Rx Y (Zt (row := [_]) 3 Y Zr0 Y tZ_162)<|Rx Y (Zo (ov Y) (ov Y) (ZO Zqy) Y Y Y (Nat.le_of_ble_eq_true Y) (Zd Y) Y)<|Za<|Tr<|ZgW (Ent.sel [some 0, some 1, some 2, none] (sd 1 Y Y<|sr 2 Y (.ptr (r' := 0) _ _ _ Y)<|sr 3 Y (.ptr (r' := 1) _ _ _ Y)<|sr 4 Y (.ptr (r' := 2) _ _ _ Y)<|sr 5 Y (.frp ⟨Y, ⟨_, Y⟩, Y, Y⟩) sn) (.cons Y (ro1 (by exact tZ_165.symm)<|rld Y)<|.cons Y (ro1 (by exact tZ_3.symm)<|rld Y)<|.cons Y (ro1 (by exact tZ_3.symm)<|rld Y)<|.row 162 .nil) Y Y)<|Rq Y (Qz<|.cons (ov Y) .nil)<|Rx Y (Zt (row := [_]) 4 Y Zr2 Y tZ_178)<|Rx Y (Zo (ov Y) (ov Y) (ZO ZmF) Y Y Y (Nat.le_of_ble_eq_true Y) (Zd Y) Y)<|Za<|K5 1 2 3 4 6 Y<|Tr<|Rx Y (ZcC 5 Y ZcB)<|ZgW (Ent.sel [some 0, some 1, some 2, some 3, none, some 5] (sd 1 Y Y<|sr 2 Y (.ptr (r' := 0) _ _ _ Y)<|sr 3 Y (.ptr (r' := 1) _ _ _ Y)<|sr 4 Y (.ptr (r' := 2) _ _ _ Y)<|sr 6 Y (.frp ⟨Y, ⟨_, Y⟩, Y, Y⟩)<|sr 14 Y (.mref (r' := 5) _ Y) sn) (.cons Y (ro1 (by exact tZ_165.symm)<|rld Y)<|.cons Y (ro1 (by exact tZ_3.symm)<|rld Y)<|.cons Y (ro1 (by exact tZ_3.symm)<|rld Y)<|.cons Y roE<|.row 178<|.cons Y (Zmc (fk := FK3) (m := ([] : List (Int × AV))) tZ_180 (fun _=>.dat Y) Y) .nil) Y Y)<|ZgW (Ent.sel [some 0, some 1, none, some 3, some 4, some 5] (sd 1 Y Y<|sr 2 Y (.ptr (r' := 0) _ _ _ Y)<|sr 3 Y (.ptr (r' := 1) _ _ _ Y)<|sr 4 Y (.frp ⟨Y, ⟨_, Y⟩, Y, Y⟩)<|sd 6 Y Y<|sr 14 Y (.mref (r' := 5) _ Y) sn) (.cons Y (ro1 (by exact tZ_165.symm)<|rld Y)<|.cons Y (ro1 (by exact tZ_3.symm)<|rld Y)<|.row 3<|.cons Y roE<|.cons Y roE<|.cons Y (Zmc (fk := FK3) (m := ([] : List (Int × AV))) tZ_180 (fun _=>.dat Y) Y) .nil) Y Y)<|Rq Y (Qz<|.cons (ov Y)<|.cons (ov Y) .nil)<|Rx Y (QJ (m := ([] : List (Int × AV))) (fk := FK3) (fv := id) (k := 1) (v := .fn 135 [.rp [.fn 133 [.rp [.fn 132 []] 0]] 0, .rp [.int .i64 q] 0]) (m' := ([(1, .fn 135 [.rp [.fn 133 [.rp [.fn 132 []] 0]] 0, .rp [.int .i64 q] 0])] : List (Int × AV))) (ov Y) (ov Y) (ov Y) ZcB ZaD Y (fun _=>.b Y) Y)<|Rq Y (Qz<|.cons (ov Y) .nil)<|Rx Y (QJ (m := ([(1, .fn 135 [.rp [.fn 133 [.rp [.fn 132 []] 0]] 0, .rp [.int .i64 q] 0])] : List (Int × AV))) (fk := FK3) (fv := id) (k := 5) (v := .fn 136 [.rp [.fn 133 [.rp [.fn 132 []] 0]] 0]) (m' := ([(1, .fn 135 [.rp [.fn 133 [.rp [.fn 132 []] 0]] 0, .rp [.int .i64 q] 0]), (5, .fn 136 [.rp [.fn 133 [.rp [.fn 132 []] 0]] 0])] : List (Int × AV))) (ov Y) (ov Y) (ov Y) ZcB ZaD Y (fun _=>.b Y) Y)<|Rq Y (Qz<|.cons (ov Y)<|.cons (ov Y) .nil)<|Rx Y (QJ (m := ([(1, .fn 135 [.rp [.fn 133 [.rp [.fn 132 []] 0]] 0, .rp [.int .i64 q] 0]), (5, .fn 136 [.rp [.fn 133 [.rp [.fn 132 []] 0]] 0])] : List (Int × AV))) (fk := FK3) (fv := id) (k := 6) (v := .fn 137 [.rp [.fn 133 [.rp [.fn 132 []] 0]] 0, .rp [.str p.Name, .int .i64 p.Kind, .sl 121 (List.map Z9 p.Parts), .int .i64 p.First, .int .i64 p.Every, .int .i64 p.Times, .int .i64 p.Step, .sl 9 (List.map R9 p.Names)] 0]) (m' := ([(1, .fn 135 [.rp [.fn 133 [.rp [.fn 132 []] 0]] 0, .rp [.int .i64 q] 0]), (5, .fn 136 [.rp [.fn 133 [.rp [.fn 132 []] 0]] 0]), (6, .fn 137 [.rp [.fn 133 [.rp [.fn 132 []] 0]] 0, .rp [.str p.Name, .int .i64 p.Kind, .sl 121 (List.map Z9 p.Parts), .int .i64 p.First, .int .i64 p.Every, .int .i64 p.Times, .int .i64 p.Step, .sl 9 (List.map R9 p.Names)] 0])] : List (Int × AV))) (ov Y) (ov Y) (ov Y) ZcB ZaD Y (fun _=>.b Y) Y)<|Rq Y (Qz<|.cons (ov Y) .nil)<|Rx Y (QJ (m := ([(1, .fn 135 [.rp [.fn 133 [.rp [.fn 132 []] 0]] 0, .rp [.int .i64 q] 0]), (5, .fn 136 [.rp [.fn 133 [.rp [.fn 132 []] 0]] 0]), (6, .fn 137 [.rp [.fn 133 [.rp [.fn 132 []] 0]] 0, .rp [.str p.Name, .int .i64 p.Kind, .sl 121 (List.map Z9 p.Parts), .int .i64 p.First, .int .i64 p.Every, .int .i64 p.Times, .int .i64 p.Step, .sl 9 (List.map R9 p.Names)] 0])] : List (Int × AV))) (fk := FK3) (fv := id) (k := 2) (v := .fn 138 [.rp [.int .i64 q] 0]) (m' := ([(1, .fn 135 [.rp [.fn 133 [.rp [.fn 132 []] 0]] 0, .rp [.int .i64 q] 0]), (5, .fn 136 [.rp [.fn 133 [.rp [.fn 132 []] 0]] 0]), (6, .fn 137 [.rp [.fn 133 [.rp [.fn 132 []] 0]] 0, .rp [.str p.Name, .int .i64 p.Kind, .sl 121 (List.map Z9 p.Parts), .int .i64 p.First, .int .i64 p.Every, .int .i64 p.Times, .int .i64 p.Step, .sl 9 (List.map R9 p.Names)] 0]), (2, .fn 138 [.rp [.int .i64 q] 0])] : List (Int × AV))) (ov Y) (ov Y) (ov Y) ZcB ZaD Y (fun _=>.b Y) Y)<|Rq Y (Qz<|.cons (ov Y) .nil)<|Rx Y (QJ (m := ([(1, .fn 135 [.rp [.fn 133 [.rp [.fn 132 []] 0]] 0, .rp [.int .i64 q] 0]), (5, .fn 136 [.rp [.fn 133 [.rp [.fn 132 []] 0]] 0]), (6, .fn 137 [.rp [.fn 133 [.rp [.fn 132 []] 0]] 0, .rp [.str p.Name, .int .i64 p.Kind, .sl 121 (List.map Z9 p.Parts), .int .i64 p.First, .int .i64 p.Every, .int .i64 p.Times, .int .i64 p.Step, .sl 9 (List.map R9 p.Names)] 0]), (2, .fn 138 [.rp [.int .i64 q] 0])] : List (Int × AV))) (fk := FK3) (fv := id) (k := 3) (v := .fn 141 [.rp [.int .i64 q] 0]) (m' := ([(1, .fn 135 [.rp [.fn 133 [.rp [.fn 132 []] 0]] 0, .rp [.int .i64 q] 0]), (5, .fn 136 [.rp [.fn 133 [.rp [.fn 132 []] 0]] 0]), (6, .fn 137 [.rp [.fn 133 [.rp [.fn 132 []] 0]] 0, .rp [.str p.Name, .int .i64 p.Kind, .sl 121 (List.map Z9 p.Parts), .int .i64 p.First, .int .i64 p.Every, .int .i64 p.Times, .int .i64 p.Step, .sl 9 (List.map R9 p.Names)] 0]), (2, .fn 138 [.rp [.int .i64 q] 0]), (3, .fn 141 [.rp [.int .i64 q] 0])] : List (Int × AV))) (ov Y) (ov Y) (ov Y) ZcB ZaD Y (fun _=>.b Y) Y)<|ZgW (Ent.sel [some 0, none, some 2, some 3, some 4, some 5] (sd 1 Y Y<|sr 2 Y (.ptr (r' := 0) _ _ _ Y)<|sr 3 Y (.frp ⟨Y, ⟨_, Y⟩, Y, Y⟩)<|sd 4 Y Y<|sd 6 Y Y<|sr 14 Y (.mref (r' := 5) _ Y)<|sr 15 Y (rFn<|rlc (.dat Y)<|rlc (.dat Y) rln)<|sr 16 Y (rFn<|rlc (.dat Y) rln)<|sr 17 Y (rFn<|rlc (.dat Y)<|rlc (.dat Y) rln)<|sr 18 Y (rFn<|rlc (.dat Y) rln)<|sr 19 Y (rFn<|rlc (.dat Y) rln) sn) (.cons Y (ro1 (by exact tZ_165.symm)<|rld Y)<|.row 3<|.cons Y roE<|.cons Y roE<|.cons Y roE<|.cons Y (Zmc (fk := FK3) (m := ([(1, .fn 135 [.rp [.fn 133 [.rp [.fn 132 []] 0]] 0, .rp [.int .i64 q] 0]), (5, .fn 136 [.rp [.fn 133 [.rp [.fn 132 []] 0]] 0]), (6, .fn 137 [.rp [.fn 133 [.rp [.fn 132 []] 0]] 0, .rp [.str p.Name, .int .i64 p.Kind, .sl 121 (List.map Z9 p.Parts), .int .i64 p.First, .int .i64 p.Every, .int .i64 p.Times, .int .i64 p.Step, .sl 9 (List.map R9 p.Names)] 0]), (2, .fn 138 [.rp [.int .i64 q] 0]), (3, .fn 141 [.rp [.int .i64 q] 0])] : List (Int × AV))) tZ_180 (fun _=>.dat Y) Y) .nil) Y Y)<|Rq Y (Qz<|.cons (ov Y) .nil)<|Rx Y (QJ (m := ([(1, .fn 135 [.rp [.fn 133 [.rp [.fn 132 []] 0]] 0, .rp [.int .i64 q] 0]), (5, .fn 136 [.rp [.fn 133 [.rp [.fn 132 []] 0]] 0]), (6, .fn 137 [.rp [.fn 133 [.rp [.fn 132 []] 0]] 0, .rp [.str p.Name, .int .i64 p.Kind, .sl 121 (List.map Z9 p.Parts), .int .i64 p.First, .int .i64 p.Every, .int .i64 p.Times, .int .i64 p.Step, .sl 9 (List.map R9 p.Names)] 0]), (2, .fn 138 [.rp [.int .i64 q] 0]), (3, .fn 141 [.rp [.int .i64 q] 0])] : List (Int × AV))) (fk := FK3) (fv := id) (k := 4) (v := .fn 144 [.rp [.int .i64 y] 0]) (m' := ([(1, .fn 135 [.rp [.fn 133 [.rp [.fn 132 []] 0]] 0, .rp [.int .i64 q] 0]), (5, .fn 136 [.rp [.fn 133 [.rp [.fn 132 []] 0]] 0]), (6, .fn 137 [.rp [.fn 133 [.rp [.fn 132 []] 0]] 0, .rp [.str p.Name, .int .i64 p.Kind, .sl 121 (List.map Z9 p.Parts), .int .i64 p.First, .int .i64 p.Every, .int .i64 p.Times, .int .i64 p.Step, .sl 9 (List.map R9 p.Names)] 0]), (2, .fn 138 [.rp [.int .i64 q] 0]), (3, .fn 141 [.rp [.int .i64 q] 0]), (4, .fn 144 [.rp [.int .i64 y] 0])] : List (Int × AV))) (ov Y) (ov Y) (ov Y) ZcB ZaD Y (fun _=>.b Y) Y)<|Rm Y<|Ra Y<|Za<|K3 1 2 7 Y<|Tr<|Rm Y<|Rq Y (Zc (ov Y) ZbZ)<|Rq Y (Zb (ov Y) tS3 Y)<|?_
 rcases ifR h with ⟨hk3_0, h⟩ | ⟨hk3_0, h⟩
 ·
  refine Rq Y (ZdR (m := ([(1, .fn 135 [.rp [.fn 133 [.rp [.fn 132 []] 0]] 0, .rp [.int .i64 q] 0]), (5, .fn 136 [.rp [.fn 133 [.rp [.fn 132 []] 0]] 0]), (6, .fn 137 [.rp [.fn 133 [.rp [.fn 132 []] 0]] 0, .rp [.str p.Name, .int .i64 p.Kind, .sl 121 (List.map Z9 p.Parts), .int .i64 p.First, .int .i64 p.Every, .int .i64 p.Times, .int .i64 p.Step, .sl 9 (List.map R9 p.Names)] 0]), (2, .fn 138 [.rp [.int .i64 q] 0]), (3, .fn 141 [.rp [.int .i64 q] 0]), (4, .fn 144 [.rp [.int .i64 y] 0])] : List (Int × AV))) (fk := FK3) (fv := id) (k := p.Kind) (z0 := .lit .nilFunc) (ov Y) (ov Y) ZcB ZaD Y (fun _=>.b Y) (QZ ZhJ Y) (nsD Y)<|lkS<|mgT hk3_0)<|bE h fun y2 h_y2 h=>Rq Y (JZ (ov Y) Y (Zfe h_y2) .nil)<|Rx Y (Zo (ov Y) (ov Y) (Zk JN Y) Y Y Y (Nat.le_of_ble_eq_true Y) (Zd Y) Y)<|Za<|?_
  obtain rfl := rt h
  exact Zi (Zq Y (.one<|.agg Y Y Y Y JN Y Y<|.cons (Dat.view<|.b Y)<|.cons (Dat.view<|.b Y)<|.cons (Dat.view<|Dat.fnC<|.refl fun x hx => .b<|List.all_eq_true.1 (((X0 h_y2).1)).1 x hx)<|.cons (Dat.view<|Dat.fnC<|.refl fun x hx => .b<|List.all_eq_true.1 (((X0 h_y2).2)).1 x hx) .nil))
 ·
  rcases ifR h with ⟨hk3_1, h⟩ | ⟨hk3_1, h⟩
  ·
   refine Rq Y (ZdR (m := ([(1, .fn 135 [.rp [.fn 133 [.rp [.fn 132 []] 0]] 0, .rp [.int .i64 q] 0]), (5, .fn 136 [.rp [.fn 133 [.rp [.fn 132 []] 0]] 0]), (6, .fn 137 [.rp [.fn 133 [.rp [.fn 132 []] 0]] 0, .rp [.str p.Name, .int .i64 p.Kind, .sl 121 (List.map Z9 p.Parts), .int .i64 p.First, .int .i64 p.Every, .int .i64 p.Times, .int .i64 p.Step, .sl 9 (List.map R9 p.Names)] 0]), (2, .fn 138 [.rp [.int .i64 q] 0]), (3, .fn 141 [.rp [.int .i64 q] 0]), (4, .fn 144 [.rp [.int .i64 y] 0])] : List (Int × AV))) (fk := FK3) (fv := id) (k := p.Kind) (z0 := .lit .nilFunc) (ov Y) (ov Y) ZcB ZaD Y (fun _=>.b Y) (QZ ZhJ Y) (nsD Y)<|lkS<|mgF hk3_0<|mgT hk3_1)<|bE h fun y3 h_y3 h=>Rq Y (JZ (ov Y) Y (Zfr h_y3) .nil)<|Rx Y (Zo (ov Y) (ov Y) (Zk JN Y) Y Y Y (Nat.le_of_ble_eq_true Y) (Zd Y) Y)<|Za<|?_
   obtain rfl := rt h
   exact Zi (Zq Y (.one<|.agg Y Y Y Y JN Y Y<|.cons (Dat.view<|.b Y)<|.cons (Dat.view<|.b Y)<|.cons (Dat.view<|Dat.fnC<|.refl fun x hx => .b<|List.all_eq_true.1 (((X5 h_y3).1)).1 x hx)<|.cons (Dat.view<|Dat.fnC<|.refl fun x hx => .b<|List.all_eq_true.1 (((X5 h_y3).2)).1 x hx) .nil))
  ·
   rcases ifR h with ⟨hk3_2, h⟩ | ⟨hk3_2, h⟩
   ·
    refine Rq Y (ZdR (m := ([(1, .fn 135 [.rp [.fn 133 [.rp [.fn 132 []] 0]] 0, .rp [.int .i64 q] 0]), (5, .fn 136 [.rp [.fn 133 [.rp [.fn 132 []] 0]] 0]), (6, .fn 137 [.rp [.fn 133 [.rp [.fn 132 []] 0]] 0, .rp [.str p.Name, .int .i64 p.Kind, .sl 121 (List.map Z9 p.Parts), .int .i64 p.First, .int .i64 p.Every, .int .i64 p.Times, .int .i64 p.Step, .sl 9 (List.map R9 p.Names)] 0]), (2, .fn 138 [.rp [.int .i64 q] 0]), (3, .fn 141 [.rp [.int .i64 q] 0]), (4, .fn 144 [.rp [.int .i64 y] 0])] : List (Int × AV))) (fk := FK3) (fv := id) (k := p.Kind) (z0 := .lit .nilFunc) (ov Y) (ov Y) ZcB ZaD Y (fun _=>.b Y) (QZ ZhJ Y) (nsD Y)<|lkS<|mgF hk3_0<|mgF hk3_1<|mgT hk3_2)<|bE h fun y4 h_y4 h=>Rq Y (JZ (ov Y) Y (ZfE h_y4) .nil)<|Rx Y (Zo (ov Y) (ov Y) (Zk JN Y) Y Y Y (Nat.le_of_ble_eq_true Y) (Zd Y) Y)<|Za<|?_
    obtain rfl := rt h
    exact Zi (Zq Y (.one<|.agg Y Y Y Y JN Y Y<|.cons (Dat.view<|.b Y)<|.cons (Dat.view<|.b Y)<|.cons (Dat.view<|Dat.fnC<|.refl fun x hx => .b<|List.all_eq_true.1 (((X4 h_y4).1)).1 x hx)<|.cons (Dat.view<|Dat.fnC<|.refl fun x hx => .b<|List.all_eq_true.1 (((X4 h_y4).2)).1 x hx) .nil))
   ·
    rcases ifR h with ⟨hk3_3, h⟩ | ⟨hk3_3, h⟩
    ·
     refine Rq Y (ZdR (m := ([(1, .fn 135 [.rp [.fn 133 [.rp [.fn 132 []] 0]] 0, .rp [.int .i64 q] 0]), (5, .fn 136 [.rp [.fn 133 [.rp [.fn 132 []] 0]] 0]), (6, .fn 137 [.rp [.fn 133 [.rp [.fn 132 []] 0]] 0, .rp [.str p.Name, .int .i64 p.Kind, .sl 121 (List.map Z9 p.Parts), .int .i64 p.First, .int .i64 p.Every, .int .i64 p.Times, .int .i64 p.Step, .sl 9 (List.map R9 p.Names)] 0]), (2, .fn 138 [.rp [.int .i64 q] 0]), (3, .fn 141 [.rp [.int .i64 q] 0]), (4, .fn 144 [.rp [.int .i64 y] 0])] : List (Int × AV))) (fk := FK3) (fv := id) (k := p.Kind) (z0 := .lit .nilFunc) (ov Y) (ov Y) ZcB ZaD Y (fun _=>.b Y) (QZ ZhJ Y) (nsD Y)<|lkS<|mgF hk3_0<|mgF hk3_1<|mgF hk3_2<|mgT hk3_3)<|bE h fun y5 h_y5 h=>Rq Y (JZ (ov Y) Y (ZfP h_y5) .nil)<|Rx Y (Zo (ov Y) (ov Y) (Zk JN Y) Y Y Y (Nat.le_of_ble_eq_true Y) (Zd Y) Y)<|Za<|?_
     obtain rfl := rt h
     exact Zi (Zq Y (.one<|.agg Y Y Y Y JN Y Y<|.cons (Dat.view<|.b Y)<|.cons (Dat.view<|.b Y)<|.cons (Dat.view<|Dat.fnC<|.refl fun x hx => .b<|List.all_eq_true.1 (((X1 h_y5).1)).1 x hx)<|.cons (Dat.view<|Dat.fnC<|.refl fun x hx => .b<|List.all_eq_true.1 (((X1 h_y5).2)).1 x hx) .nil))
    ·
     rcases ifR h with ⟨hk3_4, h⟩ | ⟨hk3_4, h⟩
     ·
      refine Rq Y (ZdR (m := ([(1, .fn 135 [.rp [.fn 133 [.rp [.fn 132 []] 0]] 0, .rp [.int .i64 q] 0]), (5, .fn 136 [.rp [.fn 133 [.rp [.fn 132 []] 0]] 0]), (6, .fn 137 [.rp [.fn 133 [.rp [.fn 132 []] 0]] 0, .rp [.str p.Name, .int .i64 p.Kind, .sl 121 (List.map Z9 p.Parts), .int .i64 p.First, .int .i64 p.Every, .int .i64 p.Times, .int .i64 p.Step, .sl 9 (List.map R9 p.Names)] 0]), (2, .fn 138 [.rp [.int .i64 q] 0]), (3, .fn 141 [.rp [.int .i64 q] 0]), (4, .fn 144 [.rp [.int .i64 y] 0])] : List (Int × AV))) (fk := FK3) (fv := id) (k := p.Kind) (z0 := .lit .nilFunc) (ov Y) (ov Y) ZcB ZaD Y (fun _=>.b Y) (QZ ZhJ Y) (nsD Y)<|lkS<|mgF hk3_0<|mgF hk3_1<|mgF hk3_2<|mgF hk3_3<|mgT hk3_4)<|bE h fun y6 h_y6 h=>Rq Y (JZ (ov Y) Y (Zfw h_y6) .nil)<|Rx Y (Zo (ov Y) (ov Y) (Zk JN Y) Y Y Y (Nat.le_of_ble_eq_true Y) (Zd Y) Y)<|Za<|?_
      obtain rfl := rt h
      exact Zi (Zq Y (.one<|.agg Y Y Y Y JN Y Y<|.cons (Dat.view<|.b Y)<|.cons (Dat.view<|.b Y)<|.cons (Dat.view<|Dat.fnC<|.refl fun x hx => .b<|List.all_eq_true.1 (((X3 h_y6).1)).1 x hx)<|.cons (Dat.view<|Dat.fnC<|.refl fun x hx => .b<|List.all_eq_true.1 (((X3 h_y6).2)).1 x hx) .nil))
     ·
      rcases ifR h with ⟨hk3_5, h⟩ | ⟨hk3_5, h⟩
      ·
       refine Rq Y (ZdR (m := ([(1, .fn 135 [.rp [.fn 133 [.rp [.fn 132 []] 0]] 0, .rp [.int .i64 q] 0]), (5, .fn 136 [.rp [.fn 133 [.rp [.fn 132 []] 0]] 0]), (6, .fn 137 [.rp [.fn 133 [.rp [.fn 132 []] 0]] 0, .rp [.str p.Name, .int .i64 p.Kind, .sl 121 (List.map Z9 p.Parts), .int .i64 p.First, .int .i64 p.Every, .int .i64 p.Times, .int .i64 p.Step, .sl 9 (List.map R9 p.Names)] 0]), (2, .fn 138 [.rp [.int .i64 q] 0]), (3, .fn 141 [.rp [.int .i64 q] 0]), (4, .fn 144 [.rp [.int .i64 y] 0])] : List (Int × AV))) (fk := FK3) (fv := id) (k := p.Kind) (z0 := .lit .nilFunc) (ov Y) (ov Y) ZcB ZaD Y (fun _=>.b Y) (QZ ZhJ Y) (nsD Y)<|lkS<|mgF hk3_0<|mgF hk3_1<|mgF hk3_2<|mgF hk3_3<|mgF hk3_4<|mgT hk3_5)<|bE h fun y7 h_y7 h=>Rq Y (JZ (ov Y) Y (Zfv h_y7) .nil)<|Rx Y (Zo (ov Y) (ov Y) (Zk JN Y) Y Y Y (Nat.le_of_ble_eq_true Y) (Zd Y) Y)<|Za<|?_
       obtain rfl := rt h
       exact Zi (Zq Y (.one<|.agg Y Y Y Y JN Y Y<|.cons (Dat.view<|.b Y)<|.cons (Dat.view<|.b Y)<|.cons (Dat.view<|Dat.fnC<|.refl fun x hx => .b<|List.all_eq_true.1 (((X2 h_y7).1)).1 x hx)<|.cons (Dat.view<|Dat.fnC<|.refl fun x hx => .b<|List.all_eq_true.1 (((X2 h_y7).2)).1 x hx) .nil))
      ·
       exact (Zqn h).elim
end Go.Proofs.YtacmhbfmedpkhaaGreatDoor
