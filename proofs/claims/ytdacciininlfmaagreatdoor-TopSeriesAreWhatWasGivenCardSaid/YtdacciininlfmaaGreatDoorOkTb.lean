/- A text of the proof: a verified executor of the program form, or the contracts of the functions that the law reaches. -/
import Derived.Test.YtdacciininlfmaaGreatDoorOkTa
set_option linter.all false
namespace Go.Proofs.YtdacciininlfmaaGreatDoor
open Go Go.Vx
set_option maxRecDepth 10000
set_option maxHeartbeats 1000000
set_option linter.unusedVariables false
theorem JH {s : List api_Param} {f : api_Param → Option Bool} {r : Bool} {f_f : FuncId} {f_c : List AV} (f_d : f_c.all datB = true) (f_h : ∀ (z0 : api_Param) z, f z0 = some z → CSpec Tryz.prog gl0 f_f ([.agg [.str z0.Name, .int .i64 z0.Kind, .sl 128 (List.map Z2 z0.Parts), .int .i64 z0.First, .int .i64 z0.Every, .int .i64 z0.Times, .int .i64 z0.Step, .sl 9 (List.map R9 z0.Names)]] ++ f_c) (.bool z)) (h : ZM s f = some r) :
 CSpec Tryz.prog gl0 42 [.sl 41 (List.map R41 s), .fn f_f f_c] (.bool r) := by
 unfold ZM at h
 replace h := ZS h
 refine So Tryz.func42 Y fun w0 A=>Tr<|Ra Y<|Za<|Tr<|Rm Y<|Rm Y<|bE h fun y h_y h=>Rq Y (Zl (Q7 f_d f_h h_y)<|.cons (ov Y) (.b Y)<|.cons (ov Y) (Dat.fnC<|.refl fun x hx => .b<|List.all_eq_true.1 f_d x hx) .nil)<|R2 ZaX Y<|Ra Y<|Za<|?_
 obtain rfl := rt h
 exact Zg (Zp Y (.one<|rb Y))
theorem Zf5 {q : api_Param} {c0 : api_Param} {r : Bool} (h : Zbv q c0 = some r) :
 CSpec Tryz.prog gl0 43 [.agg [.str q.Name, .int .i64 q.Kind, .sl 128 (List.map Z2 q.Parts), .int .i64 q.First, .int .i64 q.Every, .int .i64 q.Times, .int .i64 q.Step, .sl 9 (List.map R9 q.Names)], .rp [.str c0.Name, .int .i64 c0.Kind, .sl 128 (List.map Z2 c0.Parts), .int .i64 c0.First, .int .i64 c0.Every, .int .i64 c0.Times, .int .i64 c0.Step, .sl 9 (List.map R9 c0.Names)] 0] (.bool r) := by
 unfold Zbv at h
 replace h := ZS h
 refine So Tryz.func43 Y fun w0 A=>Tr<|Rq Y (ZD (cva<|ov Y) Y tZ_41 Y)<|Ra Y<|Za<|K3 1 2 3 Y<|Tr<|Rq Y (Zc (ov Y) ZeS)<|Rq Y (Zb (ov Y) tS9 Y)<|Rq Y (Zc (ov Y) ZeS)<|Rq Y (Zb (ov Y) tS9 Y)<|R2 ZdA Y<|Ra Y<|Za<|?_
 obtain rfl := rt h
 exact Zg (Zp Y (.one<|rb Y))
theorem Zci {m : api_Map} {r : Int × Int} (h : JG m = some r) :
 CSpec Tryz.prog gl0 17 [.agg [.int .i64 m.Version, .sl 41 (List.map R41 m.Params)]] (.tuple [.int .i64 r.1, .int .i64 r.2]) := by
 unfold JG at h
 replace h := ZS h
 refine So Tryz.func17 Y fun w0 A=>Tr<|Rq Y (ZD (cva<|ov Y) Y tZ_24 Y)<|Ra Y<|Ra Y<|Za<|Zj<|K1 1 Y<|Tr<|Rq Y (Zc (ov Y) ZjY)<|Rq Y (Zb (ov Y) tS3 Y)<|bE h fun y h_y h=>Rq Y (Zl (Qh h_y)<|.cons (ov Y) (.b Y)<|.cons (ov Y) (.b Y)<|.cons (ov Y) (.b Y) .nil)<|R1 Qa Y<|Za<|K2 1 18 Y<|If h Y (fun h=>?_) fun h=>?_
 ·
  refine K0<|Tr<|Ra Y<|Ra Y<|Za<|?_
  obtain rfl := rt h
  exact Zg (Zp Y (.two (rb Y)<|rb Y))
 ·
  refine Ze<|Zj<|K1 1 Y<|Tr<|Rq Y (Zc (ov Y) Jp)<|Rq Y (Zb (ov Y) ZdK Y)<|Rl tZ_41 ZaT Y<|R2 Qq Y<|Za<|K2 1 22 Y<|If h Y (fun h=>?_) fun h=>?_
  ·
   refine K0<|Tr<|Ra Y<|Ra Y<|Za<|?_
   obtain rfl := rt h
   exact Zg (Zp Y (.two (rb Y)<|rb Y))
  ·
   refine Ze<|J0 (fun j => (.inr j)) ⟨[(1, .rp [.int .i64 m.Version, .sl 41 (List.map R41 m.Params)] 0)], []⟩ h (fun h=>?_) fun h=>?_
   ·
    refine K1 1 Y<|Tr<|Rq Y (Zc (ov Y) Jp)<|Rq Y (Zb (ov Y) ZdK Y)<|Rl tZ_41 ZaT Y<|Rm Y<|Za<|Zf<|?_
    obtain ⟨r1, hl1, ho1⟩ := Qg h
    refine L1 (fun i=>⟨[(1, .rp [.int .i64 m.Version, .sl 41 (List.map R41 m.Params)] 0), (24, .sl 41 (List.map R41 m.Params)), (25, .int .i64 (m.Params.length : Int)), (26, .int .i64 i)], []⟩) hl1 (ES []) fun n1 i h=>?_
    unfold JS at h
    refine Tr<|R2 ZA Y<|Za<|Zj<|If h Y (fun h=>?_) fun h=>?_
    ·
     refine Ze<|Zj<|Zf<|K4 1 24 25 26 Y<|Tr<|Rm Y<|bE h fun x h_x h=>Rq Y (Zx (ov Y) (ov Y) ZaT h_x)<|Rq Y (Zi (ov Y) QW Y Y)<|Rx Y (Zr (row := [_, _, _, _, _, _, _, _]) 0 Y ZiS Y tZ_41)<|Ra Y<|Rx Y (Zo (ov Y) (ov Y) (Zm QW Y) Y Y Y (Nat.le_of_ble_eq_true Y) (Zd Y) Y)<|Za<|Zj<|K6 1 4 5 24 25 26 Y<|Tr<|Rq Y (ZK (ov Y) Y Y Y QW Y Y)<|bE h fun y2 h_y2 h=>Rq Y (Zl (Zcb h_y2)<|.cons (ov Y) (.aggB Y) .nil)<|Ra Y<|Za<|K7 1 4 5 6 24 25 26 Y<|Tr<|Rm Y<|R2 Z4 Y<|Za<|K8 1 4 5 6 24 25 26 34 Y<|If h Y (fun h=>?_) fun h=>?_
     ·
      refine K2 4 6 Y<|Tr<|Rm Y<|Rm Y<|Ra Y<|Ra Y<|Za<|?_
      replace h := lx h ▸ ho1
      obtain rfl := rt h
      exact Zg (Zp Y (.two (rb Y)<|rb Y))
     ·
      refine Ze<|K6 1 4 5 24 25 26 Y<|Tr<|Rq Y (Zc (ov Y) Jp)<|Rq Y (Zb (ov Y) ZdK Y)<|Rm Y<|bE h fun l h_l h=>Rq Y (Zdy (ov Y) ZaT on (oi<|ov Y) h_l)<|Zfy (Ent.sel [none] (sd 1 Y Y<|sd 4 Y Y<|sr 5 Y (.frp ⟨Y, ⟨_, Y⟩, Y, Y⟩)<|sd 24 Y Y<|sd 25 Y Y<|sd 26 Y Y<|sd 37 Y Y<|sd 38 Y Y<|sd 39 Y Y<|sd 40 Y Y sn) (.row 41 .nil) Y Y)<|Rq Y (Qk<|.cons (ov Y) .nil)<|bE h fun y3 h_y3 h=>Rq Y (Zl (JH Y (fun z0 _ hz=>Zf5 hz) h_y3)<|.cons (ov Y) (.b Y)<|.cons (ov Y) (.fnC<|.cons (.b Y) .nil) .nil)<|Za<|K6 1 4 24 25 26 42 Y<|If h Y (fun h=>?_) fun h=>?_
      ·
       refine K1 4 Y<|Tr<|Rm Y<|Ra Y<|Ra Y<|Za<|?_
       replace h := lx h ▸ ho1
       obtain rfl := rt h
       exact Zg (Zp Y (.two (rb Y)<|rb Y))
      ·
       exact Ze<|K4 1 24 25 26 Y<|Zs<|R2 ZT Y<|Rm Y<|Za<|⟨_, h, ES []⟩
    ·
     refine Zu<|?_
     replace h := lx h ▸ ho1
     exact ⟨(), h, ES []⟩
   ·
    replace h := elr h
    replace h := t0i h
    refine Tr<|Ra Y<|Za<|J0 (fun j => (.inr j)) ⟨[(1, .rp [.int .i64 m.Version, .sl 41 (List.map R41 m.Params)] 0)], []⟩ h (fun h=>?_) fun h=>?_
    ·
     refine Tr<|Rq Y (Zc (ov Y) Jp)<|Rq Y (Zb (ov Y) ZdK Y)<|Rl tZ_41 ZaT Y<|Rm Y<|Za<|Zf<|?_
     obtain ⟨r2, hl2, ho2⟩ := Qg h
     refine L2 (fun cells i2=>⟨[(1, .rp [.int .i64 m.Version, .sl 41 (List.map R41 m.Params)] 0), (7, .int .i64 cells), (46, .sl 41 (List.map R41 m.Params)), (47, .int .i64 (m.Params.length : Int)), (48, .int .i64 i2)], []⟩) hl2 (ES []) fun n2 cells i2 h=>?_
     unfold X2 at h
     refine Tr<|R2 ZA Y<|Za<|Zj<|If h Y (fun h=>?_) fun h=>?_
     ·
      refine Ze<|Zj<|Zf<|K5 1 7 46 47 48 Y<|Tr<|Rm Y<|bE h fun x2 h_x2 h=>Rq Y (Zx (ov Y) (ov Y) ZaT h_x2)<|Rq Y (Zi (ov Y) QW Y Y)<|Rx Y (Zr (row := [_, _, _, _, _, _, _, _]) 0 Y ZiS Y tZ_41)<|Ra Y<|Rx Y (Zo (ov Y) (ov Y) (Zm QW Y) Y Y Y (Nat.le_of_ble_eq_true Y) (Zd Y) Y)<|Za<|K7 1 7 8 9 46 47 48 Y<|Td md0<|D1 0 Zh Y<|Dq 1 Y (ZK (ov Y) Y Y Y QW Y Y)<|bE h fun y4 h_y4 h=>Dq 2 Y (Zl (ZdC h_y4)<|.cons (ov Y) (.aggB Y) .nil)<|Dq 3 Y (ZeE (Xe (ov Y) tZ_3) XX<|ZbE _ _)<|Dq 4 Y (Zk (ov Y) Y Y Zch)<|Dq 5 Y (Zn (ov Y) Y Y Y tS3 Y)<|D2 6 ZfQ Y<|D2 7 ZT Y<|D1 8 Zy Y<|Dd<|K6 1 7 8 46 47 48 Y<|Tr<|Rm Y<|R2 Qq Y<|Za<|K7 1 7 8 46 47 48 62 Y<|If h Y (fun h=>?_) fun h=>?_
      ·
       refine K1 8 Y<|Tr<|Rm Y<|Ra Y<|Ra Y<|Za<|?_
       replace h := lx h ▸ ho2
       obtain rfl := rt h
       exact Zg (Zp Y (.two (rb Y)<|rb Y))
      ·
       exact Ze<|K5 1 7 46 47 48 Y<|Zs<|R2 ZT Y<|Rm Y<|Za<|⟨_, h, ES []⟩
     ·
      refine Zu<|?_
      replace h := lx h ▸ ho2
      exact ⟨(), h, ES []⟩
    ·
     replace h := elr h
     replace h := t0i h
     refine Tr<|Rx Y (ZcE 0 Y Zjx)<|Ra Y<|Za<|J0 (fun j => (.inr j)) ⟨[], []⟩ h (fun h=>?_) fun h=>?_
     ·
      refine K2 1 10 Y<|Tr<|Rq Y (Zc (ov Y) Jp)<|Rq Y (Zb (ov Y) ZdK Y)<|Rl tZ_41 ZaT Y<|Rm Y<|Za<|Zf<|?_
      obtain ⟨r3, hl3, ho3⟩ := Qg h
      refine L2 (fun taken i3=>⟨[(10, .mref 0 1), (67, .sl 41 (List.map R41 m.Params)), (68, .int .i64 (m.Params.length : Int)), (69, .int .i64 i3)], [some ⟨104, [[.mcon (List.map (QX XF FV3) taken)]]⟩]⟩) hl3 (ES [some 0] (hhp := .cons Y (QR (fk := XF) (fv := FV3) (m := ([] : List (layout_bit × Int))) tZ_104 (fun _=>Ja<|rld Y) fun _=>.ren<|.dat Y) .nil)) fun n3 taken i3 h=>?_
      unfold X5 at h
      refine Tr<|R2 ZA Y<|Za<|Zj<|If h Y (fun h=>?_) fun h=>?_
      ·
       refine Ze<|J1 (fun j => (.inr j)) (fun taken2=>⟨[(10, .mref 0 1), (67, .sl 41 (List.map R41 m.Params)), (68, .int .i64 (m.Params.length : Int)), (69, .int .i64 i3)], [some ⟨104, [[.mcon (List.map (QX XF FV3) taken2)]]⟩]⟩) h (fun h=>?_) fun taken2 h=>?_
       ·
        refine Zf<|K4 10 67 68 69 Y<|Tr<|Rm Y<|bE h fun x3 h_x3 h=>Rq Y (Zx (ov Y) (ov Y) ZaT h_x3)<|Rq Y (Zi (ov Y) QW Y Y)<|Rx Y (Zr (row := [_, _, _, _, _, _, _, _]) 1 Y ZiS Y tZ_41)<|Ra Y<|Rx Y (Zo (ov Y) (ov Y) (Zm QW Y) Y Y Y (Nat.le_of_ble_eq_true Y) (Zd Y) Y)<|Za<|K6 10 11 12 67 68 69 Y<|Tr<|Rm Y<|Rq Y (ZK (ov Y) Y Y Y QW Y Y)<|bE h fun y5 h_y5 h=>Rq Y (Zl (ZbC h_y5)<|.cons (ov Y) (.b Y)<|.cons (ov Y) (.aggB Y) .nil)<|Rl tZ_44 Za7 Y<|Rm Y<|Za<|Zf<|?_
        obtain ⟨r4, hl4, ho4⟩ := Qg h
        refine L2 (fun taken3 i4=>⟨[(10, .mref 0 1), (11, .int .i64 i3), (67, .sl 41 (List.map R41 m.Params)), (68, .int .i64 (m.Params.length : Int)), (69, .int .i64 i3), (76, .sl 44 (List.map R44 y5)), (77, .int .i64 (y5.length : Int)), (78, .int .i64 i4)], [some ⟨104, [[.mcon (List.map (QX XF FV3) taken3)]]⟩]⟩) hl4 (ES [some 0] (hhp := .cons Y (QR (fk := XF) (fv := FV3) (m := taken) tZ_104 (fun _=>Ja<|rld Y) fun _=>.ren<|.dat Y) .nil)) fun n4 taken3 i4 h=>?_
        unfold X1 at h
        refine Tr<|R2 ZA Y<|Za<|Zj<|If h Y (fun h=>?_) fun h=>?_
        ·
         refine Ze<|Zj<|Zf<|K8 10 11 67 68 69 76 77 78 Y<|Tr<|bE h fun x4 h_x4 h=>Rq Y (Zx (ov Y) (ov Y) Za7 h_x4)<|Rq Y (Zi (ov Y) Zeu Y Y)<|Rx Y (Zr (row := [_, _, _, _]) 1 Y ZiO Y tZ_44)<|Rx Y (Zo (ov Y) (ov Y) (Zm Zeu Y) Y Y Y (Nat.le_of_ble_eq_true Y) (Zd Y) Y)<|Za<|K9 10 11 14 67 68 69 76 77 78 Y<|Tr<|Rm Y<|Rm Y<|Rq Y (Zk (ov Y) Y Y ZdW)<|Rq Y (Zn (ov Y) Y Y Y Zjz Y)<|bE h fun y6 h_y6 h=>Rx Y (ZcA [0] (Ze0 h_y6) (.cons (ov Y) (.mref _ Y)<|.cons (ov Y) (.dat Y)<|.cons (ov Y) (.dat Y) .nil) (.cons Y (QR (fk := XF) (fv := FV3) (m := taken3) tZ_104 (fun _=>Ja<|rld Y) fun _=>.ren<|.dat Y) .nil) Y (.lent 0 (.inl Y) Y (QR (fk := XF) (fv := FV3) (m := y6.2) tZ_104 (fun _=>Ja<|rld Y) fun _=>.ren<|.dat Y)<|.keep Y Y .nil) Y Y<|.dat Y)<|R1 Qa Y<|Za<|K9 10 11 67 68 69 76 77 78 87 Y<|If h Y (fun h=>?_) fun h=>?_
         ·
          refine K1 11 Y<|Tr<|Rm Y<|Ra Y<|Ra Y<|Za<|?_
          replace h := lx h ▸ ho4
          replace h := lx h ▸ ho3
          obtain rfl := rt h
          exact Zg (Zp Y (.two (rb Y)<|rb Y))
         ·
          exact Ze<|K8 10 11 67 68 69 76 77 78 Y<|Zs<|R2 ZT Y<|Rm Y<|Za<|⟨_, h, ES [some 0] (hhp := .cons Y (QR (fk := XF) (fv := FV3) (m := y6.2) tZ_104 (fun _=>Ja<|rld Y) fun _=>.ren<|.dat Y) .nil)⟩
        ·
         refine Zu<|?_
         replace h := lx h ▸ ho4
         exact ⟨_, h, ES [some 0] (hhp := .cons Y (QR (fk := XF) (fv := FV3) (m := taken3) tZ_104 (fun _=>Ja<|rld Y) fun _=>.ren<|.dat Y) .nil)⟩
       ·
        replace h := elr h
        replace h := t1i h
        exact Zs<|R2 ZT Y<|Rm Y<|Za<|⟨_, h, ES [some 0] (hhp := .cons Y (QR (fk := XF) (fv := FV3) (m := taken2) tZ_104 (fun _=>Ja<|rld Y) fun _=>.ren<|.dat Y) .nil)⟩
      ·
       refine Zu<|?_
       replace h := lx h ▸ ho3
       exact ⟨(), h, ES []⟩
     ·
      replace h := elr h
      replace h := t0i h
      refine Tr<|Ra Y<|Ra Y<|Za<|?_
      obtain rfl := rt h
      exact Zg (Zp Y (.two (rb Y)<|rb Y))
theorem Zd8 {m : api_Map} {r : (List api_Cell)} (h : ZaC m = some r) :
 CSpec Tryz.prog gl0 18 [.agg [.int .i64 m.Version, .sl 41 (List.map R41 m.Params)]] (.sl 44 (List.map R44 r)) := by
 unfold ZaC at h
 replace h := ZS h
 refine So Tryz.func18 Y fun w0 A=>Tr<|Rq Y (ZD (cva<|ov Y) Y tZ_24 Y)<|Ra Y<|Za<|K1 1 Y<|Tr<|Ra Y<|Za<|I1 (fun out=>⟨[(3, .own 0 out.length)], [some ⟨44, List.map R44 out⟩]⟩) h (fun h=>?_) fun out h=>?_
 ·
  refine Tr<|Rq Y (Zc (ov Y) Jp)<|Rq Y (Zb (ov Y) ZdK Y)<|Rl tZ_41 ZaT Y<|Rm Y<|Za<|Zf<|?_
  obtain ⟨r1, hl1, ho1⟩ := Qg h
  refine L2 (fun out2 i=>⟨[(3, .own 0 out2.length), (7, .sl 41 (List.map R41 m.Params)), (8, .int .i64 (m.Params.length : Int)), (9, .int .i64 i)], [some ⟨44, List.map R44 out2⟩]⟩) hl1 (ES [none]) fun n1 out2 i h=>?_
  unfold Zce at h
  refine Tr<|R2 ZA Y<|Za<|Zj<|If h Y (fun h=>?_) fun h=>?_
  ·
   exact Ze<|Zj<|Zf<|K4 3 7 8 9 Y<|Tr<|Rm Y<|bE h fun x h_x h=>Rq Y (Zx (ov Y) (ov Y) ZaT h_x)<|Rq Y (Zi (ov Y) QW Y Y)<|Rx Y (Zr (row := [_, _, _, _, _, _, _, _]) 1 Y ZiS Y tZ_41)<|Ra Y<|Rx Y (Zo (ov Y) (ov Y) (Zm QW Y) Y Y Y (Nat.le_of_ble_eq_true Y) (Zd Y) Y)<|Za<|K6 3 4 5 7 8 9 Y<|Zs<|Rm Y<|Rm Y<|Rq Y (ZK (ov Y) Y Y Y QW Y Y)<|bE h fun y h_y h=>Rq Y (Zl (ZbC h_y)<|.cons (ov Y) (.b Y)<|.cons (ov Y) (.aggB Y) .nil)<|bE h fun l h_l h=>Rx Y (Zhb (ov Y) (Xe (ov Y) tZ_44) Za7 Y Y (fun _=>Zd Y) Y h_l)<|Ra Y<|Za<|K4 3 7 8 9 Y<|Zs<|R2 ZT Y<|Rm Y<|Za<|⟨_, h, ES [some 0]⟩
  ·
   refine Zu<|?_
   replace h := lx h ▸ ho1
   exact ⟨_, h, ES [some 0]⟩
 ·
  refine Tr<|Rm Y<|Ra Y<|Za<|?_
  obtain rfl := rt h
  exact Zg (Zp Y (.one<|.tmp Y<|View.ownM Y Y D44))
theorem Zeb {m : api_Map} {r : (List api_Cell) × Int} (h : JM m = some r) :
 CSpec Tryz.prog gl0 5 [.agg [.int .i64 m.Version, .sl 41 (List.map R41 m.Params)]] (.tuple [.sl 44 (List.map R44 r.1), .int .i64 r.2]) := by
 unfold JM at h
 replace h := ZS h
 refine So Tryz.func5 Y fun w0 A=>Tr<|Rq Y (ZD (cva<|ov Y) Y tZ_24 Y)<|Ra Y<|Ra Y<|Za<|Zj<|K1 1 Y<|Tr<|Rq Y (Zi (ov Y) Zfk Y Y)<|bE h fun y h_y h=>Rq Y (Zl (Zci h_y)<|.cons (ov Y) (.aggB Y) .nil)<|Rm Y<|Rq Y (Zq (ov Y) Y)<|Rq Y (Zq (ov Y) Y)<|Ra Y<|Ra Y<|Za<|K2 1 5 Y<|Tr<|Rm Y<|R2 Z4 Y<|Za<|K3 1 5 12 Y<|If h Y (fun h=>?_) fun h=>?_
 ·
  refine K1 5 Y<|Tr<|Rm Y<|Ra Y<|Ra Y<|Za<|?_
  obtain rfl := rt h
  exact Zg (Zp Y (.two (.tmp Y<|View.nils 44)<|rb Y))
 ·
  refine Ze<|K1 1 Y<|Tr<|Rq Y (Zi (ov Y) Zfk Y Y)<|bE h fun y2 h_y2 h=>Rq Y (Zl (Zd8 h_y2)<|.cons (ov Y) (.aggB Y) .nil)<|Ra Y<|Ra Y<|Za<|?_
  obtain rfl := rt h
  exact Zg (Zp Y (.two (rb Y)<|rb Y))
theorem ZiT {m : api_Map} {name : Str} {r : Int} (h : Zat m name = some r) :
 CSpec Tryz.prog gl0 6 [.agg [.int .i64 m.Version, .sl 41 (List.map R41 m.Params)], .str name] (.int .i64 r) := by
 unfold Zat at h
 replace h := ZS h
 refine So Tryz.func6 Y fun w0 A=>Tr<|Rq Y (ZD (cva<|ov Y) Y tZ_24 Y)<|Ra Y<|Za<|J0 (fun j => (.inr j)) ⟨[], []⟩ h (fun h=>?_) fun h=>?_
 ·
  refine K2 1 2 Y<|Tr<|Ra Y<|Za<|Zf<|?_
  obtain ⟨r1, hl1, ho1⟩ := Qg h
  refine L1 (fun i=>⟨[(1, .str name), (2, .rp [.int .i64 m.Version, .sl 41 (List.map R41 m.Params)] 0), (5, .int .i64 i)], []⟩) hl1 (ES []) fun n1 i h=>?_
  unfold ZaZ at h
  refine Zj<|Tr<|Rm Y<|Rq Y (Zc (ov Y) Jp)<|Rq Y (Zb (ov Y) ZdK Y)<|Rl tZ_41 ZaT Y<|R2 ZA Y<|Za<|K4 1 2 5 10 Y<|If h Y (fun h=>?_) fun h=>?_
  ·
   refine Ze<|Zj<|Zf<|K3 1 2 5 Y<|Tr<|Rq Y (Zc (ov Y) Jp)<|Rq Y (Zb (ov Y) ZdK Y)<|Rm Y<|bE h fun x h_x h=>Rq Y (Zx (ov Y) (ov Y) ZaT h_x)<|Rq Y (Zc (ov Y) ZeS)<|Rq Y (Zb (ov Y) tS9 Y)<|Rm Y<|R2 ZdA Y<|Za<|K4 1 2 5 20 Y<|If h Y (fun h=>?_) fun h=>?_
   ·
    refine K1 5 Y<|Tr<|Rm Y<|Ra Y<|Za<|?_
    replace h := lx h ▸ ho1
    obtain rfl := rt h
    exact Zg (Zp Y (.one<|rb Y))
   ·
    exact Ze<|K3 1 2 5 Y<|Zs<|Rm Y<|R2 ZT Y<|Ra Y<|Za<|⟨_, h, ES []⟩
  ·
   refine Zu<|?_
   replace h := lx h ▸ ho1
   exact ⟨(), h, ES []⟩
 ·
  replace h := elr h
  replace h := t0i h
  refine Tr<|Ra Y<|Za<|?_
  obtain rfl := rt h
  exact Zg (Zp Y (.one<|rb Y))
theorem QB {n : Int} {low : Int} {high : Int} {r : Bool} (h : Qp n low high = some r) :
 CSpec Tryz.prog gl0 19 [.int .i64 n, .int .i64 low, .int .i64 high] (.bool r) := by
 unfold Qp at h
 replace h := ZS h
 refine So Tryz.func19 Y fun w0 A=>Tr<|Ra Y<|Za<|Tr<|Rm Y<|Rm Y<|R2 ZA Y<|Rm Y<|Rq Y (.guarded ((decide (n < low)) == false) Y Y Y Y fun h => Zh<|ov Y)<|Rq Y (.guarded ((decide (n < low)) == false) Y Y Y Y fun h => Zh<|ov Y)<|Rq Y (.guarded ((decide (n < low)) == false) Y Y Y Y fun h => Qq (ow Y h)<|ow Y h)<|Rq Y (Qi (ov Y) fun hp=>ow Y<|gF hp)<|Ra Y<|Za<|?_
 obtain rfl := rt h
 exact Zg (Zp Y (.one<|rb Y))
theorem Zdf {c_ : api_Calibration} {r : Int} (h : QY c_ = some r) :
 CSpec Tryz.prog gl0 7 [.agg [.int .i64 c_.Den, .sl 72 (List.map R72 c_.Lines), .int .i64 c_.Low, .int .i64 c_.High]] (.int .i64 r) := by
 unfold QY at h
 replace h := ZS h
 refine So Tryz.func7 Y fun w0 A=>Tr<|Rq Y (ZD (cva<|ov Y) Y tZ_27 Y)<|Ra Y<|Za<|Zj<|K1 1 Y<|Tr<|Rq Y (Zc (ov Y) Zlg)<|Rq Y (Zb (ov Y) tS3 Y)<|bE h fun y h_y h=>Rq Y (Zl (QB h_y)<|.cons (ov Y) (.b Y)<|.cons (ov Y) (.b Y)<|.cons (ov Y) (.b Y) .nil)<|Za<|K2 1 9 Y<|If h Y (fun h=>?_) fun h=>?_
 ·
  refine K0<|Tr<|Ra Y<|Za<|?_
  obtain rfl := rt h
  exact Zg (Zp Y (.one<|rb Y))
 ·
  refine Ze<|Zj<|K1 1 Y<|Tr<|Rq Y (Zc (ov Y) ZbB)<|Rq Y (Zb (ov Y) ZgG Y)<|Rl tZ_72 Zej Y<|R2 Qb Y<|Za<|K2 1 13 Y<|If h Y (fun h=>?_) fun h=>?_
  ·
   refine K0<|Tr<|Ra Y<|Za<|?_
   obtain rfl := rt h
   exact Zg (Zp Y (.one<|rb Y))
  ·
   refine Ze<|Zj<|K1 1 Y<|Tr<|Rq Y (Zc (ov Y) ZbB)<|Rq Y (Zb (ov Y) ZgG Y)<|Rl tZ_72 Zej Y<|R2 Qq Y<|Za<|K2 1 17 Y<|If h Y (fun h=>?_) fun h=>?_
   ·
    refine K0<|Tr<|Ra Y<|Za<|?_
    obtain rfl := rt h
    exact Zg (Zp Y (.one<|rb Y))
   ·
    refine Ze<|J0 (fun j => (.inr j)) ⟨[(1, .rp [.int .i64 c_.Den, .sl 72 (List.map R72 c_.Lines), .int .i64 c_.Low, .int .i64 c_.High] 0)], []⟩ h (fun h=>?_) fun h=>?_
    ·
     refine K1 1 Y<|Tr<|Ra Y<|Za<|Zf<|?_
     obtain ⟨r1, hl1, ho1⟩ := Qg h
     refine L1 (fun i=>⟨[(1, .rp [.int .i64 c_.Den, .sl 72 (List.map R72 c_.Lines), .int .i64 c_.Low, .int .i64 c_.High] 0), (3, .int .i64 i)], []⟩) hl1 (ES []) fun n1 i h=>?_
     unfold Q8 at h
     refine Zj<|Tr<|Rm Y<|Rq Y (Zc (ov Y) ZbB)<|Rq Y (Zb (ov Y) ZgG Y)<|Rl tZ_72 Zej Y<|R2 ZA Y<|Za<|K3 1 3 22 Y<|If h Y (fun h=>?_) fun h=>?_
     ·
      refine Ze<|Zj<|Zf<|K2 1 3 Y<|Tr<|Rq Y (Zc (ov Y) ZbB)<|Rq Y (Zb (ov Y) ZgG Y)<|Rm Y<|bE h fun x h_x h=>Rq Y (Zx (ov Y) (ov Y) Zej h_x)<|Rq Y (Zi (ov Y) Ze2 Y Y)<|Rx Y (Zr (row := [_, _, _, _]) 0 Y ZmM Y tZ_72)<|Rx Y (Zo (ov Y) (ov Y) (Zm Ze2 Y) Y Y Y (Nat.le_of_ble_eq_true Y) (Zd Y) Y)<|Za<|Zj<|K3 1 3 4 Y<|Tr<|Rq Y (Zk (ov Y) Y Y Zdh)<|Rq Y (Zn (ov Y) Y Y Y tS3 Y)<|bE h fun y2 h_y2 h=>Rq Y (Zl (QB h_y2)<|.cons (ov Y) (.b Y)<|.cons (ov Y) (.b Y)<|.cons (ov Y) (.b Y) .nil)<|Rm Y<|Rq Y (.guarded (y2 == false) Y Y Y Y fun h => Zk (ov Y) Y Y Zde)<|Rq Y (.guarded (y2 == false) Y Y Y Y fun h => Zn (ow Y h) Y Y Y tS3 Y)<|bE h fun y3 h_y3 h=>Rq Y (.guarded (y2 == false) Y Y Y Y fun h => Zl (QB<|gdT h_y3 h)<|.cons (ow Y h) (.b Y)<|.cons (ov Y) (.b Y)<|.cons (ov Y) (.b Y) .nil)<|Rq Y (Qi (ov Y) fun hp=>ow Y<|gF hp)<|Rm Y<|Rq Y (.guarded ((y2 || y3) == false) Y Y Y Y fun h => Zk (ov Y) Y Y Zdh)<|Rq Y (.guarded ((y2 || y3) == false) Y Y Y Y fun h => Zn (ow Y h) Y Y Y tS3 Y)<|Rq Y (.guarded ((y2 || y3) == false) Y Y Y Y fun h => Zk (ov Y) Y Y Zde)<|Rq Y (.guarded ((y2 || y3) == false) Y Y Y Y fun h => Zn (ow Y h) Y Y Y tS3 Y)<|Rq Y (.guarded ((y2 || y3) == false) Y Y Y Y fun h => Qq (ow Y h)<|ow Y h)<|Rq Y (Qi (ov Y) fun hp=>ow Y<|gF hp)<|Rm Y<|Rq Y (.guarded (((y2 || y3) || (decide (x.To < x.From))) == false) Y Y Y Y fun h => Zk (ov Y) Y Y ZbV)<|Rq Y (.guarded (((y2 || y3) || (decide (x.To < x.From))) == false) Y Y Y Y fun h => Zn (ow Y h) Y Y Y tS3 Y)<|bE h fun y4 h_y4 h=>Rq Y (.guarded (((y2 || y3) || (decide (x.To < x.From))) == false) Y Y Y Y fun h => Zl (QB<|gdT h_y4 h)<|.cons (ow Y h) (.b Y)<|.cons (ov Y) (.b Y)<|.cons (ov Y) (.b Y) .nil)<|Rq Y (Qi (ov Y) fun hp=>ow Y<|gF hp)<|Rm Y<|Rq Y (.guarded ((((y2 || y3) || (decide (x.To < x.From))) || y4) == false) Y Y Y Y fun h => Zk (ov Y) Y Y ZcM)<|Rq Y (.guarded ((((y2 || y3) || (decide (x.To < x.From))) || y4) == false) Y Y Y Y fun h => Zn (ow Y h) Y Y Y tS3 Y)<|bE h fun y5 h_y5 h=>Rq Y (.guarded ((((y2 || y3) || (decide (x.To < x.From))) || y4) == false) Y Y Y Y fun h => Zl (QB<|gdT h_y5 h)<|.cons (ow Y h) (.b Y)<|.cons (ov Y) (.b Y)<|.cons (ov Y) (.b Y) .nil)<|Rq Y (Qi (ov Y) fun hp=>ow Y<|gF hp)<|Za<|K4 1 3 4 54 Y<|If h Y (fun h=>?_) fun h=>?_
      ·
       refine K0<|Tr<|Ra Y<|Za<|?_
       replace h := lx h ▸ ho1
       obtain rfl := rt h
       exact Zg (Zp Y (.one<|rb Y))
      ·
       refine Ze<|K3 1 3 4 Y<|Td md0<|D1 0 Zh Y<|D2 1 Qq Y<|D1 2 Zh Y<|Dq 3 Y (.guarded ((decide (0 < i)) == true) Y Y Y Y fun h => Zk (ov Y) Y Y Zdh)<|Dq 4 Y (.guarded ((decide (0 < i)) == true) Y Y Y Y fun h => Zn (ow Y h) Y Y Y tS3 Y)<|Dq 5 Y (.guarded ((decide (0 < i)) == true) Y Y Y Y fun h => Zc (ov Y) ZbB)<|Dq 6 Y (.guarded ((decide (0 < i)) == true) Y Y Y Y fun h => Zb (ow Y h) ZgG Y)<|Dq 7 Y (.guarded ((decide (0 < i)) == true) Y Y Y Y fun h => Zh<|ov Y)<|Dq 8 Y (.guarded ((decide (0 < i)) == true) Y Y Y Y fun h => ZfB (ow Y h) (ov Y) Y)<|bE h fun x2 h_x2 h=>Dq 9 Y (.guarded ((decide (0 < i)) == true) Y Y Y Y fun h => Zx (ow Y h) (ow Y h) Zej<|gdT h_x2 h)<|Dq 10 Y (.guarded ((decide (0 < i)) == true) Y Y Y Y fun h => Zc (ow Y h) Zde)<|Dq 11 Y (.guarded ((decide (0 < i)) == true) Y Y Y Y fun h => Zb (ow Y h) tS3 Y)<|Dq 12 Y (.guarded ((decide (0 < i)) == true) Y Y Y Y fun h => ZbO (ow Y h)<|ow Y h)<|Dq 13 Y (QC (ov Y) fun hp=>ow Y<|gT hp)<|Dd<|K3 1 3 68 Y<|If h Y (fun h=>?_) fun h=>?_
       ·
        refine K0<|Tr<|Ra Y<|Za<|?_
        replace h := lx h ▸ ho1
        obtain rfl := rt h
        exact Zg (Zp Y (.one<|rb Y))
       ·
        exact Ze<|K2 1 3 Y<|Zs<|Rm Y<|R2 ZT Y<|Ra Y<|Za<|⟨_, h, ES []⟩
     ·
      refine Zu<|?_
      replace h := lx h ▸ ho1
      exact ⟨(), h, ES []⟩
    ·
     replace h := elr h
     replace h := t0i h
     refine J0 (fun j => (.inr j)) ⟨[(1, .rp [.int .i64 c_.Den, .sl 72 (List.map R72 c_.Lines), .int .i64 c_.Low, .int .i64 c_.High] 0)], []⟩ h (fun h=>?_) fun h=>?_
     ·
      refine Tr<|Ra Y<|Za<|Zf<|?_
      obtain ⟨r2, hl2, ho2⟩ := Qg h
      refine L1 (fun i2=>⟨[(1, .rp [.int .i64 c_.Den, .sl 72 (List.map R72 c_.Lines), .int .i64 c_.Low, .int .i64 c_.High] 0), (5, .int .i64 i2)], []⟩) hl2 (ES []) fun n2 i2 h=>?_
      unfold Xc at h
      refine Zj<|Tr<|Rm Y<|Rq Y (Zc (ov Y) ZbB)<|Rq Y (Zb (ov Y) ZgG Y)<|Rl tZ_72 Zej Y<|R2 ZA Y<|Za<|K3 1 5 73 Y<|If h Y (fun h=>?_) fun h=>?_
      ·
       refine Ze<|Zj<|Zf<|K2 1 5 Y<|Tr<|Rq Y (Zc (ov Y) ZbB)<|Rq Y (Zb (ov Y) ZgG Y)<|Rm Y<|bE h fun x3 h_x3 h=>Rq Y (Zx (ov Y) (ov Y) Zej h_x3)<|Rq Y (Zi (ov Y) Ze2 Y Y)<|Rx Y (Zr (row := [_, _, _, _]) 0 Y ZmM Y tZ_72)<|Rx Y (Zo (ov Y) (ov Y) (Zm Ze2 Y) Y Y Y (Nat.le_of_ble_eq_true Y) (Zd Y) Y)<|Za<|K3 1 5 6 Y<|Tr<|Rq Y (Zk (ov Y) Y Y ZbV)<|Rq Y (Zn (ov Y) Y Y Y tS3 Y)<|Rq Y (Zk (ov Y) Y Y Zdh)<|Rq Y (Zn (ov Y) Y Y Y tS3 Y)<|R2 ZfQ Y<|Rq Y (Zk (ov Y) Y Y ZcM)<|Rq Y (Zn (ov Y) Y Y Y tS3 Y)<|R2 ZT Y<|bE h fun y6 h_y6 h=>Rq Y (Zl (QB h_y6)<|.cons (ov Y) (.b Y)<|.cons (ov Y) (.b Y)<|.cons (ov Y) (.b Y) .nil)<|Rm Y<|Rq Y (.guarded (y6 == false) Y Y Y Y fun h => Zk (ov Y) Y Y ZbV)<|Rq Y (.guarded (y6 == false) Y Y Y Y fun h => Zn (ow Y h) Y Y Y tS3 Y)<|Rq Y (.guarded (y6 == false) Y Y Y Y fun h => Zk (ov Y) Y Y Zde)<|Rq Y (.guarded (y6 == false) Y Y Y Y fun h => Zn (ow Y h) Y Y Y tS3 Y)<|Rq Y (.guarded (y6 == false) Y Y Y Y fun h => Zl8 (ow Y h) (ow Y h) Y)<|Rq Y (.guarded (y6 == false) Y Y Y Y fun h => Zk (ov Y) Y Y ZcM)<|Rq Y (.guarded (y6 == false) Y Y Y Y fun h => Zn (ow Y h) Y Y Y tS3 Y)<|Rq Y (.guarded (y6 == false) Y Y Y Y fun h => Zid (ow Y h) (ow Y h) Y)<|bE h fun y7 h_y7 h=>Rq Y (.guarded (y6 == false) Y Y Y Y fun h => Zl (QB<|gdT h_y7 h)<|.cons (ow Y h) (.b Y)<|.cons (ov Y) (.b Y)<|.cons (ov Y) (.b Y) .nil)<|Rq Y (Qi (ov Y) fun hp=>ow Y<|gF hp)<|Za<|K3 1 5 100 Y<|If h Y (fun h=>?_) fun h=>?_
       ·
        refine K0<|Tr<|Ra Y<|Za<|?_
        replace h := lx h ▸ ho2
        obtain rfl := rt h
        exact Zg (Zp Y (.one<|rb Y))
       ·
        exact Ze<|K2 1 5 Y<|Zs<|Rm Y<|R2 ZT Y<|Ra Y<|Za<|⟨_, h, ES []⟩
      ·
       refine Zu<|?_
       replace h := lx h ▸ ho2
       exact ⟨(), h, ES []⟩
     ·
      replace h := elr h
      replace h := t0i h
      refine Zj<|Tr<|Rq Y (Zc (ov Y) Zez)<|Rq Y (Zb (ov Y) tS3 Y)<|bE h fun y8 h_y8 h=>Rq Y (Zl (QB h_y8)<|.cons (ov Y) (.b Y)<|.cons (ov Y) (.b Y)<|.cons (ov Y) (.b Y) .nil)<|Rm Y<|Rq Y (.guarded (y8 == false) Y Y Y Y fun h => Zc (ov Y) ZeA)<|Rq Y (.guarded (y8 == false) Y Y Y Y fun h => Zb (ow Y h) tS3 Y)<|bE h fun y9 h_y9 h=>Rq Y (.guarded (y8 == false) Y Y Y Y fun h => Zl (QB<|gdT h_y9 h)<|.cons (ow Y h) (.b Y)<|.cons (ov Y) (.b Y)<|.cons (ov Y) (.b Y) .nil)<|Rq Y (Qi (ov Y) fun hp=>ow Y<|gF hp)<|Rm Y<|Rq Y (.guarded ((y8 || y9) == false) Y Y Y Y fun h => Zc (ov Y) Zez)<|Rq Y (.guarded ((y8 || y9) == false) Y Y Y Y fun h => Zb (ow Y h) tS3 Y)<|Rq Y (.guarded ((y8 || y9) == false) Y Y Y Y fun h => Zc (ov Y) ZeA)<|Rq Y (.guarded ((y8 || y9) == false) Y Y Y Y fun h => Zb (ow Y h) tS3 Y)<|Rq Y (.guarded ((y8 || y9) == false) Y Y Y Y fun h => Qq (ow Y h)<|ow Y h)<|Rq Y (Qi (ov Y) fun hp=>ow Y<|gF hp)<|Za<|K1 115 Y<|If h Y (fun h=>?_) fun h=>?_
      ·
       refine K0<|Tr<|Ra Y<|Za<|?_
       obtain rfl := rt h
       exact Zg (Zp Y (.one<|rb Y))
      ·
       refine Ze<|K0<|Tr<|Ra Y<|Za<|?_
       obtain rfl := rt h
       exact Zg (Zp Y (.one<|rb Y))
theorem QU {n : Int} {low : Int} {high : Int} {r : Bool} (h : Qy n low high = some r) :
 CSpec Tryz.prog gl0 47 [.int .i64 n, .int .i64 low, .int .i64 high] (.bool r) := by
 unfold Qy at h
 replace h := ZS h
 refine So Tryz.func47 Y fun w0 A=>Tr<|Ra Y<|Za<|Tr<|Rm Y<|Rm Y<|R2 ZA Y<|Rm Y<|Rq Y (.guarded ((decide (n < low)) == false) Y Y Y Y fun h => Zh<|ov Y)<|Rq Y (.guarded ((decide (n < low)) == false) Y Y Y Y fun h => Zh<|ov Y)<|Rq Y (.guarded ((decide (n < low)) == false) Y Y Y Y fun h => Qq (ow Y h)<|ow Y h)<|Rq Y (Qi (ov Y) fun hp=>ow Y<|gF hp)<|Ra Y<|Za<|?_
 obtain rfl := rt h
 exact Zg (Zp Y (.one<|rb Y))
theorem ZeJ {s : Str} {r : Bool} (h : Zbn s = some r) :
 CSpec Tryz.prog gl0 82 [.str s] (.bool r) := by
 unfold Zbn at h
 replace h := ZS h
 refine So Tryz.func82 Y fun w0 A=>Tr<|Ra Y<|Za<|J0 (fun j => (.inr j)) ⟨[(0, .str s)], []⟩ h (fun h=>?_) fun h=>?_
 ·
  refine K1 0 Y<|Tr<|Ra Y<|Za<|Zf<|?_
  obtain ⟨r1, hl1, ho1⟩ := Qg h
  refine L1 (fun i=>⟨[(0, .str s), (3, .int .i64 i)], []⟩) hl1 (ES []) fun n1 i h=>?_
  unfold Jo at h
  refine Zj<|Tr<|Rm Y<|Rm Y<|Rq Y (ZeZ (ov Y) Zfz Y)<|R2 ZA Y<|Za<|K3 0 3 8 Y<|If h Y (fun h=>?_) fun h=>?_
  ·
   refine Ze<|Zj<|Zf<|K2 0 3 Y<|Tr<|Rm Y<|Rm Y<|bE h fun b h_b h=>Rq Y (Zer (ov Y) (ov Y) Zfz h_b)<|Ra Y<|Za<|K3 0 3 4 Y<|Tr<|Rm Y<|R2 ZaX Y<|Rm Y<|Rq Y (.guarded ((decide (97 ≤ b)) == true) Y Y Y Y fun h => Zh<|ov Y)<|Rq Y (.guarded ((decide (97 ≤ b)) == true) Y Y Y Y fun h => ZbO (ow Y h)<|ov Y)<|Rq Y (QC (ov Y) fun hp=>ow Y<|gT hp)<|Rm Y<|Rq Y (.guarded (((decide (97 ≤ b)) && (decide (b ≤ 122))) == false) Y Y Y Y fun h => Zh<|ov Y)<|Rq Y (.guarded (((decide (97 ≤ b)) && (decide (b ≤ 122))) == false) Y Y Y Y fun h => Qq (ow Y h)<|ov Y)<|Rq Y (.guarded (((decide (97 ≤ b)) && (decide (b ≤ 122))) == false) Y Y Y Y fun h => Zh<|ow Y h)<|Rq Y (.guarded2 ((((decide (97 ≤ b)) && (decide (b ≤ 122))) == false) && ((decide (0 < i)) == true)) Y Y Y Y fun h => Zh<|ov Y)<|Rq Y (.guarded2 ((((decide (97 ≤ b)) && (decide (b ≤ 122))) == false) && ((decide (0 < i)) == true)) Y Y Y Y fun h => ZaX (ow Y h)<|ov Y)<|Rq Y (.guarded2 ((((decide (97 ≤ b)) && (decide (b ≤ 122))) == false) && ((decide (0 < i)) == true)) Y Y Y Y fun h => Zh<|ow Y h)<|Rq Y (.guarded2 (((((decide (97 ≤ b)) && (decide (b ≤ 122))) == false) && ((decide (0 < i)) == true)) && ((decide (48 ≤ b)) == true)) Y Y Y Y fun h => Zh<|ov Y)<|Rq Y (.guarded2 (((((decide (97 ≤ b)) && (decide (b ≤ 122))) == false) && ((decide (0 < i)) == true)) && ((decide (48 ≤ b)) == true)) Y Y Y Y fun h => ZbO (ow Y h)<|ov Y)<|Rq Y (.guarded2 ((((decide (97 ≤ b)) && (decide (b ≤ 122))) == false) && ((decide (0 < i)) == true)) Y Y Y Y fun h => QC (ow Y h) fun hp=>ow Y<|gA h<|gT hp)<|Rq Y (.guarded2 ((((decide (97 ≤ b)) && (decide (b ≤ 122))) == false) && ((decide (0 < i)) == true)) Y Y Y Y fun h => Zh<|ow Y h)<|Rq Y (.guarded2 (((((decide (97 ≤ b)) && (decide (b ≤ 122))) == false) && ((decide (0 < i)) == true)) && (((decide (48 ≤ b)) && (decide (b ≤ 57))) == false)) Y Y Y Y fun h => Zh<|ov Y)<|Rq Y (.guarded2 (((((decide (97 ≤ b)) && (decide (b ≤ 122))) == false) && ((decide (0 < i)) == true)) && (((decide (48 ≤ b)) && (decide (b ≤ 57))) == false)) Y Y Y Y fun h => Qb (ow Y h)<|ov Y)<|Rq Y (.guarded2 ((((decide (97 ≤ b)) && (decide (b ≤ 122))) == false) && ((decide (0 < i)) == true)) Y Y Y Y fun h => Qi (ow Y h) fun hp=>ow Y<|gA h<|gF hp)<|Rq Y (.guarded (((decide (97 ≤ b)) && (decide (b ≤ 122))) == false) Y Y Y Y fun h => QC (ow Y h) fun hp=>ow Y<|gA h<|gT hp)<|Rq Y (Qi (ov Y) fun hp=>ow Y<|gF hp)<|R1 Qa Y<|Za<|K3 0 3 36 Y<|If h Y (fun h=>?_) fun h=>?_
   ·
    refine K0<|Tr<|Ra Y<|Za<|?_
    replace h := lx h ▸ ho1
    obtain rfl := rt h
    exact Zg (Zp Y (.one<|rb Y))
   ·
    exact Ze<|K2 0 3 Y<|Zs<|Rm Y<|R2 ZT Y<|Ra Y<|Za<|⟨_, h, ES []⟩
  ·
   refine Zu<|?_
   replace h := lx h ▸ ho1
   exact ⟨(), h, ES []⟩
 ·
  replace h := elr h
  replace h := t0i h
  refine Tr<|Rm Y<|Rq Y (ZeZ (ov Y) Zfz Y)<|R2 ZaX Y<|Rm Y<|Rq Y (.guarded ((decide (1 ≤ (s.length : Int))) == true) Y Y Y Y fun h => Zh<|ov Y)<|Rq Y (.guarded ((decide (1 ≤ (s.length : Int))) == true) Y Y Y Y fun h => ZeZ (ow Y h) Zfz Y)<|Rq Y (.guarded ((decide (1 ≤ (s.length : Int))) == true) Y Y Y Y fun h => ZbO (ow Y h)<|ov Y)<|Rq Y (QC (ov Y) fun hp=>ow Y<|gT hp)<|Ra Y<|Za<|?_
  obtain rfl := rt h
  exact Zg (Zp Y (.one<|rb Y))
theorem ZgI {p : api_Param} {r : Int} (h : ZdI p = some r) :
 CSpec Tryz.prog gl0 99 [.agg [.str p.Name, .int .i64 p.Kind, .sl 128 (List.map Z2 p.Parts), .int .i64 p.First, .int .i64 p.Every, .int .i64 p.Times, .int .i64 p.Step, .sl 9 (List.map R9 p.Names)]] (.int .i64 r) := by
 unfold ZdI at h
 replace h := ZS h
 refine So Tryz.func99 Y fun w0 A=>Tr<|Rq Y (ZD (cva<|ov Y) Y tZ_41 Y)<|Ra Y<|Za<|K1 1 Y<|Tr<|Ra Y<|Za<|I1 (fun n=>⟨[(3, .int .i64 n)], []⟩) h (fun h=>?_) fun n h=>?_
 ·
  refine Tr<|Rq Y (Zc (ov Y) ZbK)<|Rq Y (Zb (ov Y) Zgt Y)<|Rl tZ_128 Zcs Y<|Rm Y<|Za<|Zf<|?_
  obtain ⟨r1, hl1, ho1⟩ := Qg h
  refine L2 (fun n2 i=>⟨[(3, .int .i64 n2), (7, .sl 128 (List.map Z2 p.Parts)), (8, .int .i64 (p.Parts.length : Int)), (9, .int .i64 i)], []⟩) hl1 (ES []) fun n1 n2 i h=>?_
  unfold Zga at h
  refine Tr<|R2 ZA Y<|Za<|Zj<|If h Y (fun h=>?_) fun h=>?_
  ·
   exact Ze<|Zj<|Zf<|K4 3 7 8 9 Y<|Tr<|bE h fun x h_x h=>Rq Y (Zx (ov Y) (ov Y) Zcs h_x)<|Rq Y (Zi (ov Y) Zbi Y Y)<|Rx Y (Zr (row := [_, _, _, _]) 0 Y Zgk Y tZ_128)<|Rx Y (Zo (ov Y) (ov Y) (Zm Zbi Y) Y Y Y (Nat.le_of_ble_eq_true Y) (Zd Y) Y)<|Za<|K5 3 5 7 8 9 Y<|Zs<|Rm Y<|Rq Y (Zk (ov Y) Y Y Ze9)<|Rq Y (Zn (ov Y) Y Y Y tS3 Y)<|R2 ZT Y<|Ra Y<|Za<|K4 3 7 8 9 Y<|Zs<|R2 ZT Y<|Rm Y<|Za<|⟨_, h, ES []⟩
  ·
   refine Zu<|?_
   replace h := lx h ▸ ho1
   exact ⟨_, h, ES []⟩
 ·
  refine Tr<|Rm Y<|Ra Y<|Za<|?_
  obtain rfl := rt h
  exact Zg (Zp Y (.one<|rb Y))
theorem ZfK {p : api_Param} {r : Int} (h : JW p = some r) :
 CSpec Tryz.prog gl0 83 [.agg [.str p.Name, .int .i64 p.Kind, .sl 128 (List.map Z2 p.Parts), .int .i64 p.First, .int .i64 p.Every, .int .i64 p.Times, .int .i64 p.Step, .sl 9 (List.map R9 p.Names)]] (.int .i64 r) := by
 unfold JW at h
 replace h := ZS h
 refine So Tryz.func83 Y fun w0 A=>Tr<|Rq Y (ZD (cva<|ov Y) Y tZ_41 Y)<|Ra Y<|Za<|Zj<|K1 1 Y<|Tr<|Rq Y (Zc (ov Y) ZbK)<|Rq Y (Zb (ov Y) Zgt Y)<|Rl tZ_128 Zcs Y<|R2 Qb Y<|Za<|K2 1 8 Y<|If h Y (fun h=>?_) fun h=>?_
 ·
  refine K0<|Tr<|Ra Y<|Za<|?_
  obtain rfl := rt h
  exact Zg (Zp Y (.one<|rb Y))
 ·
  refine Ze<|Zj<|K1 1 Y<|Tr<|Rq Y (Zc (ov Y) ZbK)<|Rq Y (Zb (ov Y) Zgt Y)<|Rl tZ_128 Zcs Y<|R2 Qq Y<|Za<|K2 1 12 Y<|If h Y (fun h=>?_) fun h=>?_
  ·
   refine K0<|Tr<|Ra Y<|Za<|?_
   obtain rfl := rt h
   exact Zg (Zp Y (.one<|rb Y))
  ·
   refine Ze<|J0 (fun j => (.inr j)) ⟨[(1, .rp [.str p.Name, .int .i64 p.Kind, .sl 128 (List.map Z2 p.Parts), .int .i64 p.First, .int .i64 p.Every, .int .i64 p.Times, .int .i64 p.Step, .sl 9 (List.map R9 p.Names)] 0)], []⟩ h (fun h=>?_) fun h=>?_
   ·
    refine K1 1 Y<|Tr<|Rq Y (Zc (ov Y) ZbK)<|Rq Y (Zb (ov Y) Zgt Y)<|Rl tZ_128 Zcs Y<|Rm Y<|Za<|Zf<|?_
    obtain ⟨r1, hl1, ho1⟩ := Qg h
    refine L1 (fun i=>⟨[(1, .rp [.str p.Name, .int .i64 p.Kind, .sl 128 (List.map Z2 p.Parts), .int .i64 p.First, .int .i64 p.Every, .int .i64 p.Times, .int .i64 p.Step, .sl 9 (List.map R9 p.Names)] 0), (14, .sl 128 (List.map Z2 p.Parts)), (15, .int .i64 (p.Parts.length : Int)), (16, .int .i64 i)], []⟩) hl1 (ES []) fun n1 i h=>?_
    unfold JE at h
    refine Tr<|R2 ZA Y<|Za<|Zj<|If h Y (fun h=>?_) fun h=>?_
    ·
     refine Ze<|Zj<|Zf<|K4 1 14 15 16 Y<|Tr<|bE h fun x h_x h=>Rq Y (Zx (ov Y) (ov Y) Zcs h_x)<|Rq Y (Zi (ov Y) Zbi Y Y)<|Rx Y (Zr (row := [_, _, _, _]) 0 Y Zgk Y tZ_128)<|Rx Y (Zo (ov Y) (ov Y) (Zm Zbi Y) Y Y Y (Nat.le_of_ble_eq_true Y) (Zd Y) Y)<|Za<|K5 1 4 14 15 16 Y<|Tr<|Rq Y (Zk (ov Y) Y Y Zfc)<|Rq Y (Zn (ov Y) Y Y Y tS3 Y)<|bE h fun y h_y h=>Rq Y (Zl (QU h_y)<|.cons (ov Y) (.b Y)<|.cons (ov Y) (.b Y)<|.cons (ov Y) (.b Y) .nil)<|Rm Y<|Rq Y (.guarded (y == false) Y Y Y Y fun h => Zk (ov Y) Y Y Ze7)<|Rq Y (.guarded (y == false) Y Y Y Y fun h => Zn (ow Y h) Y Y Y tS3 Y)<|bE h fun y2 h_y2 h=>Rq Y (.guarded (y == false) Y Y Y Y fun h => Zl (QU<|gdT h_y2 h)<|.cons (ow Y h) (.b Y)<|.cons (ov Y) (.b Y)<|.cons (ov Y) (.b Y) .nil)<|Rq Y (Qi (ov Y) fun hp=>ow Y<|gF hp)<|Rm Y<|Rq Y (.guarded ((y || y2) == false) Y Y Y Y fun h => Zk (ov Y) Y Y Zfg)<|Rq Y (.guarded ((y || y2) == false) Y Y Y Y fun h => Zn (ow Y h) Y Y Y tS3 Y)<|bE h fun y3 h_y3 h=>Rq Y (.guarded ((y || y2) == false) Y Y Y Y fun h => Zl (QU<|gdT h_y3 h)<|.cons (ow Y h) (.b Y)<|.cons (ov Y) (.b Y)<|.cons (ov Y) (.b Y) .nil)<|Rq Y (Qi (ov Y) fun hp=>ow Y<|gF hp)<|Rm Y<|Rq Y (.guarded (((y || y2) || y3) == false) Y Y Y Y fun h => Zk (ov Y) Y Y Ze9)<|Rq Y (.guarded (((y || y2) || y3) == false) Y Y Y Y fun h => Zn (ow Y h) Y Y Y tS3 Y)<|Rq Y (.guarded (((y || y2) || y3) == false) Y Y Y Y fun h => Zk (ov Y) Y Y Zfg)<|Rq Y (.guarded (((y || y2) || y3) == false) Y Y Y Y fun h => Zn (ow Y h) Y Y Y tS3 Y)<|Rq Y (.guarded (((y || y2) || y3) == false) Y Y Y Y fun h => ZfB (ov Y) (ow Y h) Y)<|bE h fun y4 h_y4 h=>Rq Y (.guarded (((y || y2) || y3) == false) Y Y Y Y fun h => Zl (QU<|gdT h_y4 h)<|.cons (ow Y h) (.b Y)<|.cons (ov Y) (.b Y)<|.cons (ow Y h) (.b Y) .nil)<|Rq Y (Qi (ov Y) fun hp=>ow Y<|gF hp)<|Za<|K5 1 14 15 16 40 Y<|If h Y (fun h=>?_) fun h=>?_
     ·
      refine K0<|Tr<|Ra Y<|Za<|?_
      replace h := lx h ▸ ho1
      obtain rfl := rt h
      exact Zg (Zp Y (.one<|rb Y))
     ·
      exact Ze<|K4 1 14 15 16 Y<|Zs<|R2 ZT Y<|Rm Y<|Za<|⟨_, h, ES []⟩
    ·
     refine Zu<|?_
     replace h := lx h ▸ ho1
     exact ⟨(), h, ES []⟩
   ·
    replace h := elr h
    replace h := t0i h
    refine Zj<|Tr<|Rq Y (Zi (ov Y) QW Y Y)<|bE h fun y5 h_y5 h=>Rq Y (Zl (ZgI h_y5)<|.cons (ov Y) (.aggB Y) .nil)<|R2 Qq Y<|Za<|K1 44 Y<|If h Y (fun h=>?_) fun h=>?_
    ·
     refine K0<|Tr<|Ra Y<|Za<|?_
     obtain rfl := rt h
     exact Zg (Zp Y (.one<|rb Y))
    ·
     refine Ze<|K0<|Tr<|Ra Y<|Za<|?_
     obtain rfl := rt h
     exact Zg (Zp Y (.one<|rb Y))
theorem ZfO {p : api_Param} {r : Int} (h : JU p = some r) :
 CSpec Tryz.prog gl0 84 [.agg [.str p.Name, .int .i64 p.Kind, .sl 128 (List.map Z2 p.Parts), .int .i64 p.First, .int .i64 p.Every, .int .i64 p.Times, .int .i64 p.Step, .sl 9 (List.map R9 p.Names)]] (.int .i64 r) := by
 unfold JU at h
 replace h := ZS h
 refine So Tryz.func84 Y fun w0 A=>Tr<|Rq Y (ZD (cva<|ov Y) Y tZ_41 Y)<|Ra Y<|Za<|J0 (fun j => (.inr j)) ⟨[(1, .rp [.str p.Name, .int .i64 p.Kind, .sl 128 (List.map Z2 p.Parts), .int .i64 p.First, .int .i64 p.Every, .int .i64 p.Times, .int .i64 p.Step, .sl 9 (List.map R9 p.Names)] 0)], []⟩ h (fun h=>?_) fun h=>?_
 ·
  refine K1 1 Y<|Tr<|Rq Y (Zc (ov Y) ZgL)<|Rq Y (Zb (ov Y) tS3 Y)<|Za<|Zf<|Zj<|K2 1 6 Y<|Tr<|R2 Qb Y<|Ra Y<|Za<|K3 1 6 7 Y<|ZoA h Y (fun b7 h=>?_) fun b7 h=>?_
  ·
   refine Ze<|K2 1 7 Y<|If h Y (fun h=>?_) fun h=>?_
   ·
    exact Ze<|⟨(), h, ES []⟩
   ·
    refine K0<|Tr<|Ra Y<|Za<|?_
    obtain rfl := rt h
    exact Zg (Zp Y (.one<|rb Y))
  ·
   refine Tr<|R2 Qb Y<|Ra Y<|Za<|K3 1 6 7 Y<|ZoA h Y (fun b7 h=>?_) fun b7 h=>?_
   ·
    refine Ze<|K2 1 7 Y<|If h Y (fun h=>?_) fun h=>?_
    ·
     exact Ze<|⟨(), h, ES []⟩
    ·
     refine K0<|Tr<|Ra Y<|Za<|?_
     obtain rfl := rt h
     exact Zg (Zp Y (.one<|rb Y))
   ·
    refine Tr<|R2 Qb Y<|Ra Y<|Za<|K3 1 6 7 Y<|ZoA h Y (fun b7 h=>?_) fun b7 h=>?_
    ·
     refine Ze<|K2 1 7 Y<|If h Y (fun h=>?_) fun h=>?_
     ·
      exact Ze<|⟨(), h, ES []⟩
     ·
      refine K0<|Tr<|Ra Y<|Za<|?_
      obtain rfl := rt h
      exact Zg (Zp Y (.one<|rb Y))
    ·
     refine Tr<|R2 Qb Y<|Ra Y<|Za<|K3 1 6 7 Y<|ZoA h Y (fun b7 h=>?_) fun b7 h=>?_
     ·
      refine Ze<|K2 1 7 Y<|If h Y (fun h=>?_) fun h=>?_
      ·
       exact Ze<|⟨(), h, ES []⟩
      ·
       refine K0<|Tr<|Ra Y<|Za<|?_
       obtain rfl := rt h
       exact Zg (Zp Y (.one<|rb Y))
     ·
      refine Zs<|R2 Qb Y<|Ra Y<|Za<|K2 1 7 Y<|If h Y (fun h=>?_) fun h=>?_
      ·
       exact Ze<|⟨(), h, ES []⟩
      ·
       refine K0<|Tr<|Ra Y<|Za<|?_
       obtain rfl := rt h
       exact Zg (Zp Y (.one<|rb Y))
 ·
  replace h := elr h
  replace h := t0i h
  refine Zj<|Tr<|Rq Y (Zc (ov Y) ZjG)<|Rq Y (Zb (ov Y) tS3 Y)<|Rq Y (Zc (ov Y) ZgL)<|Rq Y (Zb (ov Y) tS3 Y)<|R2 ZaI Y<|bE h fun y h_y h=>Rq Y (Zl (QU h_y)<|.cons (ov Y) (.b Y)<|.cons (ov Y) (.b Y)<|.cons (ov Y) (.b Y) .nil)<|Rm Y<|Rq Y (.guarded (y == false) Y Y Y Y fun h => Zc (ov Y) Zch)<|Rq Y (.guarded (y == false) Y Y Y Y fun h => Zb (ow Y h) tS3 Y)<|bE h fun y2 h_y2 h=>Rq Y (.guarded (y == false) Y Y Y Y fun h => Zl (QU<|gdT h_y2 h)<|.cons (ow Y h) (.b Y)<|.cons (ov Y) (.b Y)<|.cons (ov Y) (.b Y) .nil)<|Rq Y (Qi (ov Y) fun hp=>ow Y<|gF hp)<|Rm Y<|Rq Y (.guarded ((y || y2) == false) Y Y Y Y fun h => Zc (ov Y) Zdl)<|Rq Y (.guarded ((y || y2) == false) Y Y Y Y fun h => Zb (ow Y h) tS3 Y)<|Rq Y (.guarded ((y || y2) == false) Y Y Y Y fun h => ZA (ow Y h)<|ov Y)<|Rq Y (Qi (ov Y) fun hp=>ow Y<|gF hp)<|Rm Y<|Rq Y (.guarded (((y || y2) || (decide (p.Step < 0))) == false) Y Y Y Y fun h => Zc (ov Y) Zdl)<|Rq Y (.guarded (((y || y2) || (decide (p.Step < 0))) == false) Y Y Y Y fun h => Zb (ow Y h) tS3 Y)<|Rq Y (.guarded (((y || y2) || (decide (p.Step < 0))) == false) Y Y Y Y fun h => Qb (ow Y h)<|ov Y)<|Rq Y (.guarded (((y || y2) || (decide (p.Step < 0))) == false) Y Y Y Y fun h => Zc (ov Y) Zch)<|Rq Y (.guarded (((y || y2) || (decide (p.Step < 0))) == false) Y Y Y Y fun h => Zb (ow Y h) tS3 Y)<|Rq Y (.guarded (((y || y2) || (decide (p.Step < 0))) == false) Y Y Y Y fun h => Qb (ow Y h)<|ov Y)<|Rq Y (.guarded (((y || y2) || (decide (p.Step < 0))) == false) Y Y Y Y fun h => Zgp .neq (by simp) (ow Y h) (ow Y h) tB4)<|Rq Y (Qi (ov Y) fun hp=>ow Y<|gF hp)<|Za<|K2 1 37 Y<|If h Y (fun h=>?_) fun h=>?_
  ·
   refine K0<|Tr<|Ra Y<|Za<|?_
   obtain rfl := rt h
   exact Zg (Zp Y (.one<|rb Y))
  ·
   refine Ze<|J0 (fun j => (.inr j)) ⟨[], []⟩ h (fun h=>?_) fun h=>?_
   ·
    refine K1 1 Y<|Tr<|Rq Y (Zc (ov Y) ZbK)<|Rq Y (Zb (ov Y) Zgt Y)<|Rl tZ_128 Zcs Y<|Rm Y<|Za<|Zf<|?_
    obtain ⟨r1, hl1, ho1⟩ := Qg h
    refine L1 (fun i=>⟨[(1, .rp [.str p.Name, .int .i64 p.Kind, .sl 128 (List.map Z2 p.Parts), .int .i64 p.First, .int .i64 p.Every, .int .i64 p.Times, .int .i64 p.Step, .sl 9 (List.map R9 p.Names)] 0), (39, .sl 128 (List.map Z2 p.Parts)), (40, .int .i64 (p.Parts.length : Int)), (41, .int .i64 i)], []⟩) hl1 (ES []) fun n1 i h=>?_
    unfold XK at h
    refine Tr<|R2 ZA Y<|Za<|Zj<|If h Y (fun h=>?_) fun h=>?_
    ·
     refine Ze<|Zj<|Zf<|K4 1 39 40 41 Y<|Tr<|bE h fun x h_x h=>Rq Y (Zx (ov Y) (ov Y) Zcs h_x)<|Rq Y (Zi (ov Y) Zbi Y Y)<|Rx Y (Zr (row := [_, _, _, _]) 0 Y Zgk Y tZ_128)<|Rx Y (Zo (ov Y) (ov Y) (Zm Zbi Y) Y Y Y (Nat.le_of_ble_eq_true Y) (Zd Y) Y)<|Za<|K5 1 4 39 40 41 Y<|Tr<|Rq Y (Zc (ov Y) Zch)<|Rq Y (Zb (ov Y) tS3 Y)<|R2 Qq Y<|Rm Y<|Rq Y (.guarded ((decide (1 < p.Times)) == true) Y Y Y Y fun h => Zc (ov Y) Zdl)<|Rq Y (.guarded ((decide (1 < p.Times)) == true) Y Y Y Y fun h => Zb (ow Y h) tS3 Y)<|Rq Y (.guarded ((decide (1 < p.Times)) == true) Y Y Y Y fun h => Qq (ow Y h)<|ov Y)<|Rq Y (QC (ov Y) fun hp=>ow Y<|gT hp)<|Rm Y<|Rq Y (.guarded (((decide (1 < p.Times)) && (decide (57 < p.Step))) == false) Y Y Y Y fun h => Zk (ov Y) Y Y Ze7)<|Rq Y (.guarded (((decide (1 < p.Times)) && (decide (57 < p.Step))) == false) Y Y Y Y fun h => Zn (ow Y h) Y Y Y tS3 Y)<|Rq Y (.guarded (((decide (1 < p.Times)) && (decide (57 < p.Step))) == false) Y Y Y Y fun h => Zc (ov Y) Zch)<|Rq Y (.guarded (((decide (1 < p.Times)) && (decide (57 < p.Step))) == false) Y Y Y Y fun h => Zb (ow Y h) tS3 Y)<|Rq Y (.guarded (((decide (1 < p.Times)) && (decide (57 < p.Step))) == false) Y Y Y Y fun h => ZfB (ow Y h) (ov Y) Y)<|Rq Y (.guarded (((decide (1 < p.Times)) && (decide (57 < p.Step))) == false) Y Y Y Y fun h => Zc (ov Y) Zdl)<|Rq Y (.guarded (((decide (1 < p.Times)) && (decide (57 < p.Step))) == false) Y Y Y Y fun h => Zb (ow Y h) tS3 Y)<|Rq Y (.guarded (((decide (1 < p.Times)) && (decide (57 < p.Step))) == false) Y Y Y Y fun h => Zl8 (ow Y h) (ow Y h) Y)<|Rq Y (.guarded (((decide (1 < p.Times)) && (decide (57 < p.Step))) == false) Y Y Y Y fun h => Zid (ow Y h) (ow Y h) Y)<|Rq Y (.guarded (((decide (1 < p.Times)) && (decide (57 < p.Step))) == false) Y Y Y Y fun h => Qq (ow Y h)<|ov Y)<|Rq Y (Qi (ov Y) fun hp=>ow Y<|gF hp)<|Za<|K5 1 39 40 41 64 Y<|If h Y (fun h=>?_) fun h=>?_
     ·
      refine K0<|Tr<|Ra Y<|Za<|?_
      replace h := lx h ▸ ho1
      obtain rfl := rt h
      exact Zg (Zp Y (.one<|rb Y))
     ·
      exact Ze<|K4 1 39 40 41 Y<|Zs<|R2 ZT Y<|Rm Y<|Za<|⟨_, h, ES []⟩
    ·
     refine Zu<|?_
     replace h := lx h ▸ ho1
     exact ⟨(), h, ES []⟩
   ·
    replace h := elr h
    replace h := t0i h
    refine Tr<|Ra Y<|Za<|?_
    obtain rfl := rt h
    exact Zg (Zp Y (.one<|rb Y))
theorem ZgE {p : api_Param} {r : Int} (h : Zas p = some r) :
 CSpec Tryz.prog gl0 85 [.agg [.str p.Name, .int .i64 p.Kind, .sl 128 (List.map Z2 p.Parts), .int .i64 p.First, .int .i64 p.Every, .int .i64 p.Times, .int .i64 p.Step, .sl 9 (List.map R9 p.Names)]] (.int .i64 r) := by
 unfold Zas at h
 replace h := ZS h
 refine So Tryz.func85 Y fun w0 A=>Tr<|Rq Y (ZD (cva<|ov Y) Y tZ_41 Y)<|Ra Y<|Za<|K1 1 Y<|Tr<|Rq Y (Zi (ov Y) QW Y Y)<|bE h fun y h_y h=>Rq Y (Zl (ZgI h_y)<|.cons (ov Y) (.aggB Y) .nil)<|Ra Y<|Za<|Zj<|K2 1 3 Y<|Tr<|Rq Y (Zc (ov Y) ZbZ)<|Rq Y (Zb (ov Y) tS3 Y)<|R2 Qb Y<|Rm Y<|Rq Y (.guarded ((decide (p.Kind = 4)) == true) Y Y Y Y fun h => Zh<|ov Y)<|bE h fun q h_q h=>Rq Y (.guarded ((decide (p.Kind = 4)) == true) Y Y Y Y fun h => ZcH (ow Y h) (ov Y)<|gdT h_q h)<|Rq Y (.guarded ((decide (p.Kind = 4)) == true) Y Y Y Y fun h => Z4 (ow Y h)<|ov Y)<|Rq Y (QC (ov Y) fun hp=>ow Y<|gT hp)<|Rm Y<|Rq Y (.guarded (((decide (p.Kind = 4)) && (!decide (q = 0))) == false) Y Y Y Y fun h => Zc (ov Y) ZbZ)<|Rq Y (.guarded (((decide (p.Kind = 4)) && (!decide (q = 0))) == false) Y Y Y Y fun h => Zb (ow Y h) tS3 Y)<|Rq Y (.guarded (((decide (p.Kind = 4)) && (!decide (q = 0))) == false) Y Y Y Y fun h => Qb (ow Y h)<|ov Y)<|Rq Y (.guarded (((decide (p.Kind = 4)) && (!decide (q = 0))) == false) Y Y Y Y fun h => Zh<|ow Y h)<|Rq Y (.guarded2 ((((decide (p.Kind = 4)) && (!decide (q = 0))) == false) && ((decide (p.Kind = 5)) == true)) Y Y Y Y fun h => Zh<|ov Y)<|Rq Y (.guarded2 ((((decide (p.Kind = 4)) && (!decide (q = 0))) == false) && ((decide (p.Kind = 5)) == true)) Y Y Y Y fun h => Z4 (ow Y h)<|ov Y)<|Rq Y (.guarded (((decide (p.Kind = 4)) && (!decide (q = 0))) == false) Y Y Y Y fun h => QC (ow Y h) fun hp=>ow Y<|gA h<|gT hp)<|Rq Y (Qi (ov Y) fun hp=>ow Y<|gF hp)<|Rm Y<|Rq Y (.guarded ((((decide (p.Kind = 4)) && (!decide (q = 0))) || ((decide (p.Kind = 5)) && (!decide (y = 1)))) == false) Y Y Y Y fun h => Zc (ov Y) ZbZ)<|Rq Y (.guarded ((((decide (p.Kind = 4)) && (!decide (q = 0))) || ((decide (p.Kind = 5)) && (!decide (y = 1)))) == false) Y Y Y Y fun h => Zb (ow Y h) tS3 Y)<|Rq Y (.guarded ((((decide (p.Kind = 4)) && (!decide (q = 0))) || ((decide (p.Kind = 5)) && (!decide (y = 1)))) == false) Y Y Y Y fun h => Qb (ow Y h)<|ov Y)<|Rq Y (.guarded ((((decide (p.Kind = 4)) && (!decide (q = 0))) || ((decide (p.Kind = 5)) && (!decide (y = 1)))) == false) Y Y Y Y fun h => Zh<|ow Y h)<|Rq Y (.guarded2 (((((decide (p.Kind = 4)) && (!decide (q = 0))) || ((decide (p.Kind = 5)) && (!decide (y = 1)))) == false) && ((decide (p.Kind = 2)) == false)) Y Y Y Y fun h => Zc (ov Y) ZbZ)<|Rq Y (.guarded2 (((((decide (p.Kind = 4)) && (!decide (q = 0))) || ((decide (p.Kind = 5)) && (!decide (y = 1)))) == false) && ((decide (p.Kind = 2)) == false)) Y Y Y Y fun h => Zb (ow Y h) tS3 Y)<|Rq Y (.guarded2 (((((decide (p.Kind = 4)) && (!decide (q = 0))) || ((decide (p.Kind = 5)) && (!decide (y = 1)))) == false) && ((decide (p.Kind = 2)) == false)) Y Y Y Y fun h => Qb (ow Y h)<|ov Y)<|Rq Y (.guarded ((((decide (p.Kind = 4)) && (!decide (q = 0))) || ((decide (p.Kind = 5)) && (!decide (y = 1)))) == false) Y Y Y Y fun h => Qi (ow Y h) fun hp=>ow Y<|gA h<|gF hp)<|Rq Y (.guarded ((((decide (p.Kind = 4)) && (!decide (q = 0))) || ((decide (p.Kind = 5)) && (!decide (y = 1)))) == false) Y Y Y Y fun h => Zh<|ow Y h)<|Rq Y (.guarded2 (((((decide (p.Kind = 4)) && (!decide (q = 0))) || ((decide (p.Kind = 5)) && (!decide (y = 1)))) == false) && (((decide (p.Kind = 2)) || (decide (p.Kind = 3))) == true)) Y Y Y Y fun h => Zh<|ov Y)<|Rq Y (.guarded2 (((((decide (p.Kind = 4)) && (!decide (q = 0))) || ((decide (p.Kind = 5)) && (!decide (y = 1)))) == false) && (((decide (p.Kind = 2)) || (decide (p.Kind = 3))) == true)) Y Y Y Y fun h => Qb (ow Y h)<|ov Y)<|Rq Y (.guarded ((((decide (p.Kind = 4)) && (!decide (q = 0))) || ((decide (p.Kind = 5)) && (!decide (y = 1)))) == false) Y Y Y Y fun h => QC (ow Y h) fun hp=>ow Y<|gA h<|gT hp)<|Rq Y (Qi (ov Y) fun hp=>ow Y<|gF hp)<|Za<|K3 1 3 40 Y<|If h Y (fun h=>?_) fun h=>?_
 ·
  refine K0<|Tr<|Ra Y<|Za<|?_
  obtain rfl := rt h
  exact Zg (Zp Y (.one<|rb Y))
 ·
  refine Ze<|Zj<|K2 1 3 Y<|Tr<|Rq Y (Zc (ov Y) ZbZ)<|Rq Y (Zb (ov Y) tS3 Y)<|R2 Z4 Y<|Za<|K3 1 3 43 Y<|If h Y (fun h=>?_) fun h=>?_
  ·
   refine Zj<|K1 1 Y<|Tr<|Rq Y (Zc (ov Y) ZbU)<|Rq Y (Zb (ov Y) Zhg Y)<|Rl tZ_9 ZdO Y<|R2 Qq Y<|Za<|K1 47 Y<|If h Y (fun h=>?_) fun h=>?_
   ·
    refine K0<|Tr<|Ra Y<|Za<|?_
    obtain rfl := rt h
    exact Zg (Zp Y (.one<|rb Y))
   ·
    refine Ze<|K0<|Tr<|Ra Y<|Za<|?_
    obtain rfl := rt h
    exact Zg (Zp Y (.one<|rb Y))
  ·
   refine Ze<|Zj<|K2 1 3 Y<|Tr<|Rq Y (Zc (ov Y) ZbU)<|Rq Y (Zb (ov Y) Zhg Y)<|Rl tZ_9 ZdO Y<|R2 Qb Y<|Za<|K3 1 3 51 Y<|If h Y (fun h=>?_) fun h=>?_
   ·
    refine K0<|Tr<|Ra Y<|Za<|?_
    obtain rfl := rt h
    exact Zg (Zp Y (.one<|rb Y))
   ·
    refine Ze<|Zj<|K2 1 3 Y<|Td md0<|Dq 0 Y (Zc (ov Y) ZbU)<|Dq 1 Y (Zb (ov Y) Zhg Y)<|Dq 2 Y (ZeE (Xe (ov Y) tZ_9) ZdO<|ZbE _ _)<|D2 3 Qq Y<|D1 4 Zh Y<|Dq 5 Y (.guarded ((decide (64 < (p.Names.length : Int))) == false) Y Y Y Y fun h => Zc (ov Y) ZbU)<|Dq 6 Y (.guarded ((decide (64 < (p.Names.length : Int))) == false) Y Y Y Y fun h => Zb (ow Y h) Zhg Y)<|Dq 7 Y (.guarded ((decide (64 < (p.Names.length : Int))) == false) Y Y Y Y fun h => ZeE (Xe (ow Y h) tZ_9) ZdO<|ZbE _ _)<|Dq 8 Y (.guarded ((decide (64 < (p.Names.length : Int))) == false) Y Y Y Y fun h => Zh<|ov Y)<|bE h fun q2 h_q2 h=>Dq 9 Y (.guarded ((decide (64 < (p.Names.length : Int))) == false) Y Y Y Y fun h => ZcK (ov Y) (ow Y h)<|gdT h_q2 h)<|Dq 10 Y (.guarded ((decide (64 < (p.Names.length : Int))) == false) Y Y Y Y fun h => Qq (ow Y h)<|ow Y h)<|Dq 11 Y (Qi (ov Y) fun hp=>ow Y<|gF hp)<|Dd<|K2 1 63 Y<|If h Y (fun h=>?_) fun h=>?_
    ·
     refine K0<|Tr<|Ra Y<|Za<|?_
     obtain rfl := rt h
     exact Zg (Zp Y (.one<|rb Y))
    ·
     refine Ze<|J0 (fun j => (.inr j)) ⟨[], []⟩ h (fun h=>?_) fun h=>?_
     ·
      refine K1 1 Y<|Tr<|Rq Y (Zc (ov Y) ZbU)<|Rq Y (Zb (ov Y) Zhg Y)<|Rl tZ_9 ZdO Y<|Rm Y<|Za<|Zf<|?_
      obtain ⟨r1, hl1, ho1⟩ := Qg h
      refine L1 (fun i=>⟨[(1, .rp [.str p.Name, .int .i64 p.Kind, .sl 128 (List.map Z2 p.Parts), .int .i64 p.First, .int .i64 p.Every, .int .i64 p.Times, .int .i64 p.Step, .sl 9 (List.map R9 p.Names)] 0), (65, .sl 9 (List.map R9 p.Names)), (66, .int .i64 (p.Names.length : Int)), (67, .int .i64 i)], []⟩) hl1 (ES []) fun n1 i h=>?_
      unfold Jd at h
      refine Tr<|R2 ZA Y<|Za<|Zj<|If h Y (fun h=>?_) fun h=>?_
      ·
       refine Ze<|J0 (fun j => (.inr j)) ⟨[(1, .rp [.str p.Name, .int .i64 p.Kind, .sl 128 (List.map Z2 p.Parts), .int .i64 p.First, .int .i64 p.Every, .int .i64 p.Times, .int .i64 p.Step, .sl 9 (List.map R9 p.Names)] 0), (65, .sl 9 (List.map R9 p.Names)), (66, .int .i64 (p.Names.length : Int)), (67, .int .i64 i)], []⟩ h (fun h=>?_) fun h=>?_
       ·
        refine Zf<|K4 1 65 66 67 Y<|Tr<|Rm Y<|bE h fun x h_x h=>Rq Y (Zx (ov Y) (ov Y) ZdO h_x)<|Rq Y (Zb (ov Y) tS9 Y)<|Ra Y<|Ra Y<|Za<|Zj<|K6 1 4 5 65 66 67 Y<|Tr<|Rm Y<|bE h fun y2 h_y2 h=>Rq Y (Zl (ZeJ h_y2)<|.cons (ov Y) (.b Y) .nil)<|R1 Qa Y<|Za<|K7 1 4 5 65 66 67 74 Y<|If h Y (fun h=>?_) fun h=>?_
        ·
         refine K0<|Tr<|Ra Y<|Za<|?_
         replace h := lx h ▸ ho1
         obtain rfl := rt h
         exact Zg (Zp Y (.one<|rb Y))
        ·
         refine Ze<|K6 1 4 5 65 66 67 Y<|Tr<|Rq Y (Zc (ov Y) ZbU)<|Rq Y (Zb (ov Y) Zhg Y)<|Rm Y<|bE h fun l h_l h=>Rq Y (Zdy (ov Y) ZdO on (oi<|ov Y) h_l)<|Rl tZ_9 ZdO Y<|Rm Y<|Za<|Zf<|?_
         obtain ⟨r2, hl2, ho2⟩ := Qg h
         refine L1 (fun i2=>⟨[(1, .rp [.str p.Name, .int .i64 p.Kind, .sl 128 (List.map Z2 p.Parts), .int .i64 p.First, .int .i64 p.Every, .int .i64 p.Times, .int .i64 p.Step, .sl 9 (List.map R9 p.Names)] 0), (5, .str x), (65, .sl 9 (List.map R9 p.Names)), (66, .int .i64 (p.Names.length : Int)), (67, .int .i64 i), (78, .sl 9 (List.map R9 l)), (79, .int .i64 (l.length : Int)), (80, .int .i64 i2)], []⟩) hl2 (ES []) fun n2 i2 h=>?_
         unfold Jh at h
         refine Tr<|R2 ZA Y<|Za<|Zj<|If h Y (fun h=>?_) fun h=>?_
         ·
          refine Ze<|Zj<|Zf<|K8 1 5 65 66 67 78 79 80 Y<|Tr<|bE h fun x2 h_x2 h=>Rq Y (Zx (ov Y) (ov Y) ZdO h_x2)<|Rq Y (Zb (ov Y) tS9 Y)<|Ra Y<|Za<|K9 1 5 7 65 66 67 78 79 80 Y<|Tr<|Rm Y<|Rm Y<|R2 ZdA Y<|Za<|K9 1 5 65 66 67 78 79 80 86 Y<|If h Y (fun h=>?_) fun h=>?_
          ·
           refine K0<|Tr<|Ra Y<|Za<|?_
           replace h := lx h ▸ ho2
           replace h := lx h ▸ ho1
           obtain rfl := rt h
           exact Zg (Zp Y (.one<|rb Y))
          ·
           exact Ze<|K8 1 5 65 66 67 78 79 80 Y<|Zs<|R2 ZT Y<|Rm Y<|Za<|⟨_, h, ES []⟩
         ·
          refine Zu<|?_
          replace h := lx h ▸ ho2
          exact ⟨(), h, ES []⟩
       ·
        replace h := elr h
        replace h := t0i h
        exact Zs<|R2 ZT Y<|Rm Y<|Za<|⟨_, h, ES []⟩
      ·
       refine Zu<|?_
       replace h := lx h ▸ ho1
       exact ⟨(), h, ES []⟩
     ·
      replace h := elr h
      replace h := t0i h
      refine Tr<|Ra Y<|Za<|?_
      obtain rfl := rt h
      exact Zg (Zp Y (.one<|rb Y))
theorem Zb3 {p : api_Param} {number : Int} {r : (List api_Cell)} (h : JI p number = some r) :
 CSpec Tryz.prog gl0 49 [.agg [.str p.Name, .int .i64 p.Kind, .sl 128 (List.map Z2 p.Parts), .int .i64 p.First, .int .i64 p.Every, .int .i64 p.Times, .int .i64 p.Step, .sl 9 (List.map R9 p.Names)], .int .i64 number] (.sl 44 (List.map R44 r)) := by
 unfold JI at h
 replace h := ZS h
 refine So Tryz.func49 Y fun w0 A=>Tr<|Rq Y (ZD (cva<|ov Y) Y tZ_41 Y)<|Ra Y<|Za<|K2 1 2 Y<|Tr<|Ra Y<|Za<|I1 (fun out=>⟨[(5, .own 0 out.length)], [some ⟨44, List.map R44 out⟩]⟩) h (fun h=>?_) fun out h=>?_
 ·
  refine Tr<|Rq Y (Zc (ov Y) ZjG)<|Rq Y (Zb (ov Y) tS3 Y)<|Ra Y<|Za<|Zf<|?_
  obtain ⟨r1, hl1, ho1⟩ := Qg h
  refine L2 (fun out2 f=>⟨[(1, .int .i64 number), (2, .rp [.str p.Name, .int .i64 p.Kind, .sl 128 (List.map Z2 p.Parts), .int .i64 p.First, .int .i64 p.Every, .int .i64 p.Times, .int .i64 p.Step, .sl 9 (List.map R9 p.Names)] 0), (5, .own 0 out2.length), (6, .int .i64 f)], [some ⟨44, List.map R44 out2⟩]⟩) hl1 (ES [none]) fun n1 out2 f h=>?_
  unfold XG at h
  refine Zj<|Tr<|Rm Y<|R2 ZA Y<|Za<|K5 1 2 5 6 17 Y<|If h Y (fun h=>?_) fun h=>?_
  ·
   refine Ze<|I1 (fun out3=>⟨[(1, .int .i64 number), (2, .rp [.str p.Name, .int .i64 p.Kind, .sl 128 (List.map Z2 p.Parts), .int .i64 p.First, .int .i64 p.Every, .int .i64 p.Times, .int .i64 p.Step, .sl 9 (List.map R9 p.Names)] 0), (5, .own 0 out3.length), (6, .int .i64 f)], [some ⟨44, List.map R44 out3⟩]⟩) h (fun h=>?_) fun out3 h=>?_
   ·
    refine Zf<|K4 1 2 5 6 Y<|Tr<|Ra Y<|Za<|I1 (fun Zaj=>⟨[(1, .int .i64 number), (2, .rp [.str p.Name, .int .i64 p.Kind, .sl 128 (List.map Z2 p.Parts), .int .i64 p.First, .int .i64 p.Every, .int .i64 p.Times, .int .i64 p.Step, .sl 9 (List.map R9 p.Names)] 0), (5, .own 0 out2.length), (6, .int .i64 f), (7, .bool Zaj)], [some ⟨44, List.map R44 out2⟩]⟩) h (fun h=>?_) fun Zaj h=>?_
    ·
     refine Tr<|Rq Y (Zc (ov Y) ZbK)<|Rq Y (Zb (ov Y) Zgt Y)<|Rl tZ_128 Zcs Y<|Rm Y<|Za<|Zf<|?_
     obtain ⟨r2, hl2, ho2⟩ := Qg h
     refine L2 (fun inside2 i=>⟨[(1, .int .i64 number), (2, .rp [.str p.Name, .int .i64 p.Kind, .sl 128 (List.map Z2 p.Parts), .int .i64 p.First, .int .i64 p.Every, .int .i64 p.Times, .int .i64 p.Step, .sl 9 (List.map R9 p.Names)] 0), (5, .own 0 out2.length), (6, .int .i64 f), (7, .bool inside2), (23, .sl 128 (List.map Z2 p.Parts)), (24, .int .i64 (p.Parts.length : Int)), (25, .int .i64 i)], [some ⟨44, List.map R44 out2⟩]⟩) hl2 (ES [some 0]) fun n2 inside2 i h=>?_
     unfold J5 at h
     refine Tr<|R2 ZA Y<|Za<|Zj<|If h Y (fun h=>?_) fun h=>?_
     ·
      exact Ze<|Zj<|Zf<|K8 1 2 5 6 7 23 24 25 Y<|Tr<|bE h fun x h_x h=>Rq Y (Zx (ov Y) (ov Y) Zcs h_x)<|Rq Y (Zi (ov Y) Zbi Y Y)<|Rx Y (Zr (row := [_, _, _, _]) 1 Y Zgk Y tZ_128)<|Rx Y (Zo (ov Y) (ov Y) (Zm Zbi Y) Y Y Y (Nat.le_of_ble_eq_true Y) (Zd Y) Y)<|Za<|K9 1 2 5 6 7 9 23 24 25 Y<|Zs<|Rm Y<|Rm Y<|Rq Y (.guarded (inside2 == true) Y Y Y Y fun h => Zh<|ov Y)<|Rq Y (.guarded (inside2 == true) Y Y Y Y fun h => Zk (ov Y) Y Y Zfc)<|Rq Y (.guarded (inside2 == true) Y Y Y Y fun h => Zn (ow Y h) Y Y Y tS3 Y)<|Rq Y (.guarded (inside2 == true) Y Y Y Y fun h => Zid (ow Y h) (ow Y h) Y)<|Rq Y (.guarded (inside2 == true) Y Y Y Y fun h => ZA (ow Y h)<|ov Y)<|Rq Y (QC (ov Y) fun hp=>ow Y<|gT hp)<|Ra Y<|Za<|K8 1 2 5 6 7 23 24 25 Y<|Zs<|R2 ZT Y<|Rm Y<|Za<|⟨_, h, ES [some 0]⟩
     ·
      refine Zu<|?_
      replace h := lx h ▸ ho2
      exact ⟨_, h, ES [some 0]⟩
    ·
     refine Tr<|Ra Y<|Za<|Zf<|?_
     obtain ⟨r3, hl3, ho3⟩ := Qg h
     refine L2 (fun out4 j=>⟨[(1, .int .i64 number), (2, .rp [.str p.Name, .int .i64 p.Kind, .sl 128 (List.map Z2 p.Parts), .int .i64 p.First, .int .i64 p.Every, .int .i64 p.Times, .int .i64 p.Step, .sl 9 (List.map R9 p.Names)] 0), (5, .own 0 out4.length), (6, .int .i64 f), (7, .bool Zaj), (10, .int .i64 j)], [some ⟨44, List.map R44 out4⟩]⟩) hl3 (ES [some 0]) fun n3 out4 j h=>?_
     unfold Zaa at h
     refine Zj<|Tr<|Rm Y<|Rq Y (Zc (ov Y) Zch)<|Rq Y (Zb (ov Y) tS3 Y)<|R2 ZA Y<|Rm Y<|Rq Y (.guarded ((decide (j < p.Times)) == true) Y Y Y Y fun h => Zh<|ov Y)<|Rq Y (QC (ov Y) fun hp=>ow Y<|gT hp)<|Za<|K7 1 2 5 6 7 10 44 Y<|If h Y (fun h=>?_) fun h=>?_
     ·
      refine Ze<|Zj<|Zf<|K6 1 2 5 6 7 10 Y<|Tr<|Rm Y<|Rm Y<|Rq Y (ZeR (ov Y) Y Y Za7)<|Rm Y<|Rq Y (Qz (ys := [_, _, _, _]) Zp0 Zqd ZiO (.cons (cvs (ov Y)<|Zt Y)<|.cons (cvs (ov Y)<|Zt Y)<|.cons (cvs (ov Y)<|Zt Y) .nil) Y)<|Rx Y (Zr (row := [_, _, _, _]) 1 Y ZiO Y tZ_44)<|Rx Y (Zo (ov Y) (ov Y) (Zm Zeu Y) Y Y Y (Nat.le_of_ble_eq_true Y) (Zd Y) Y)<|Za<|I1 (fun Places=>⟨[(1, .int .i64 number), (2, .rp [.str p.Name, .int .i64 p.Kind, .sl 128 (List.map Z2 p.Parts), .int .i64 p.First, .int .i64 p.Every, .int .i64 p.Times, .int .i64 p.Step, .sl 9 (List.map R9 p.Names)] 0), (5, .own 0 out4.length), (6, .int .i64 f), (7, .bool Zaj), (10, .int .i64 j), (11, .ptr 1 1 0 0)], [some ⟨44, List.map R44 out4⟩, some ⟨44, [[.int .i64 number, .int .i64 (out4.length : Int), .int .i64 f, .own 2 Places.length]]⟩, some ⟨117, List.map R117 Places⟩]⟩) h (fun h=>?_) fun Places h=>?_
      ·
       refine K7 1 2 5 6 7 10 11 Y<|Tr<|Rq Y (Zc (ov Y) ZbK)<|Rq Y (Zb (ov Y) Zgt Y)<|Rl tZ_128 Zcs Y<|Rm Y<|Za<|Zf<|?_
       obtain ⟨r4, hl4, ho4⟩ := Qg h
       refine L2 (fun Places2 i2=>⟨[(1, .int .i64 number), (2, .rp [.str p.Name, .int .i64 p.Kind, .sl 128 (List.map Z2 p.Parts), .int .i64 p.First, .int .i64 p.Every, .int .i64 p.Times, .int .i64 p.Step, .sl 9 (List.map R9 p.Names)] 0), (5, .own 0 out4.length), (6, .int .i64 f), (7, .bool Zaj), (10, .int .i64 j), (11, .ptr 1 1 0 0), (53, .sl 128 (List.map Z2 p.Parts)), (54, .int .i64 (p.Parts.length : Int)), (55, .int .i64 i2)], [some ⟨44, List.map R44 out4⟩, some ⟨44, [[.int .i64 number, .int .i64 (out4.length : Int), .int .i64 f, .own 2 Places2.length]]⟩, some ⟨117, List.map R117 Places2⟩]⟩) hl4 (ES [some 0, some 1, none]) fun n4 Places2 i2 h=>?_
       unfold Zb2 at h
       refine Tr<|R2 ZA Y<|Za<|Zj<|If h Y (fun h=>?_) fun h=>?_
       ·
        exact Ze<|Zj<|Zf<|K10 1 2 5 6 7 10 11 53 54 55 Y<|Tr<|bE h fun x2 h_x2 h=>Rq Y (Zx (ov Y) (ov Y) Zcs h_x2)<|Rq Y (Zi (ov Y) Zbi Y Y)<|Rx Y (Zr (row := [_, _, _, _]) 3 Y Zgk Y tZ_128)<|Rx Y (Zo (ov Y) (ov Y) (Zm Zbi Y) Y Y Y (Nat.le_of_ble_eq_true Y) (Zd Y) Y)<|Za<|K11 1 2 5 6 7 10 11 13 53 54 55 Y<|Zs<|Rq Y (Zk (ov Y) Y Y ZdW)<|Rq Y (Zn (ov Y) Y Y Y Zjz Y)<|Rm Y<|Rq Y (Zk (ov Y) Y Y Zfc)<|Rq Y (Zn (ov Y) Y Y Y tS3 Y)<|R2 ZT Y<|Rq Y (Zk (ov Y) Y Y Ze7)<|Rq Y (Zn (ov Y) Y Y Y tS3 Y)<|Rm Y<|Rq Y (Zc (ov Y) Zdl)<|Rq Y (Zb (ov Y) tS3 Y)<|R2 ZfQ Y<|R2 ZT Y<|Rq Y (Zk (ov Y) Y Y Zfg)<|Rq Y (Zn (ov Y) Y Y Y tS3 Y)<|Rq Y (Zk (ov Y) Y Y Ze9)<|Rq Y (Zn (ov Y) Y Y Y tS3 Y)<|Rq Y (Qz (ys := [_, _, _, _]) ZoT Zoz Zh1 (.cons (cvs (ov Y)<|Zt Y)<|.cons (cvs (ov Y)<|Zt Y)<|.cons (cvs (ov Y)<|Zt Y)<|.cons (cvs (ov Y)<|Zt Y) .nil) Y)<|R_q (.sl 117<|List.map R117 ([(api_Place.mk (i64 (f + x2.Frame)) (i64 (x2.Word + (i64 (j * p.Step)))) x2.Low x2.Bits)] : List api_Place)) Y (Zc2 ZhC (.cons (cva<|ov Y) Y (pwD Y) .nil) Y Y)<|bE h fun l h_l h=>Rx Y (XH (ov Y) (Xe (ov Y) tZ_117) ZhC Y Y Y (fun _=>Zd Y) Y h_l)<|Rq Y (Zk (ov Y) Y Y ZdW)<|Rx Y (Zo (ov Y) (ov Y) (ZL Zjz) Y Y Y (Nat.le_of_ble_eq_true Y) (Zd Y) Y)<|Za<|K10 1 2 5 6 7 10 11 53 54 55 Y<|Zs<|R2 ZT Y<|Rm Y<|Za<|⟨_, h, ES [some 0, some 1, some 2]⟩
       ·
        refine Zu<|?_
        replace h := lx h ▸ ho4
        exact ⟨_, h, ES [some 0, some 1, some 2]⟩
      ·
       exact Zs<|Rm Y<|Rq Y (ZK (ov Y) Y Y Y Zeu Y Y)<|Zfy (Ent.sel [some 0, some 1, none] (sd 1 Y Y<|sd 2 Y Y<|sr 5 Y (.own (r' := 0) _ Y)<|sd 6 Y Y<|sd 7 Y Y<|sd 10 Y Y<|sr 11 Y (.ptr (r' := 1) _ _ _ Y)<|sr 81 Y (.own (r' := 0) _ Y)<|sr 82 Y (Ja<|rlc (.dat Y)<|rlc (.dat Y)<|rlc (.dat Y)<|rlc (ZpN Y Y Y D117) rln) sn) (.cons Y (roM D44)<|.cons Y (ro1 (by exact tZ_44.symm)<|rlc (.dat Y)<|rlc (.dat Y)<|rlc (.dat Y)<|rlc (ZpN Y Y Y D117) rln)<|.row 117 .nil) Y Y)<|R_q (.sl 44<|List.map R44 ([(api_Cell.mk number (out4.length : Int) f Places)] : List api_Cell)) Y (Zc2 Za7 (.cons (cva<|ov Y) Y (pwD Y) .nil) Y Y)<|bE h fun l2 h_l2 h=>Rx Y (XH (ov Y) (Xe (ov Y) tZ_44) Za7 Y Y Y (fun _=>Zd Y) Y h_l2)<|Ra Y<|Za<|K6 1 2 5 6 7 10 Y<|Zs<|Rm Y<|R2 ZT Y<|Ra Y<|Za<|⟨_, h, ES [some 0]⟩
     ·
      refine Zu<|?_
      replace h := lx h ▸ ho3
      exact ⟨_, h, ES [some 0]⟩
   ·
    exact Zs<|Rm Y<|Rq Y (Zc (ov Y) ZgL)<|Rq Y (Zb (ov Y) tS3 Y)<|R2 ZT Y<|Ra Y<|Za<|⟨_, h, ES [some 0]⟩
  ·
   refine Zu<|?_
   replace h := lx h ▸ ho1
   exact ⟨_, h, ES [some 0]⟩
 ·
  refine Tr<|Rm Y<|Ra Y<|Za<|?_
  obtain rfl := rt h
  exact Zg (Zp Y (.one<|.tmp Y<|View.ownM Y Y D44))
theorem ZfS {t : List ((Vector Int 3) × Bool)} {l : List api_Place} {r : Bool × (List ((Vector Int 3) × Bool))} (h : JT t l = some r) :
 GSpec Tryz.prog gl0 86 [.mref 0 1, .sl 117 (List.map R117 l)] [some ⟨109, [[.mcon (List.map (QX Xj FV4) t)]]⟩] (.bool r.1) [some ⟨109, [[.mcon (List.map (QX Xj FV4) r.2)]]⟩] := by
 unfold JT at h
 replace h := ZS h
 refine Zdx (by kernel_rfl) Tryz.func86 Y Y<|?_
 intro w0 A W φ0
 refine Tr<|Ra Y<|Za<|K2 0 1 Y<|Tr<|Ra Y<|Za<|I2 (fun o ok=>⟨[(5, .bool ok)], [some ⟨109, [[.mcon (List.map (QX Xj FV4) o)]]⟩]⟩) h (fun h=>?_) fun o ok h=>?_
 ·
  refine Tr<|Rm Y<|Rl tZ_117 ZhC Y<|Rm Y<|Za<|Zf<|?_
  obtain ⟨r1, hl1, ho1⟩ := Qg h
  refine L3 (fun o2 ok2 i=>⟨[(0, .mref 0 1), (5, .bool ok2), (10, .sl 117 (List.map R117 l)), (11, .int .i64 (l.length : Int)), (12, .int .i64 i)], [some ⟨109, [[.mcon (List.map (QX Xj FV4) o2)]]⟩]⟩) hl1 (ES [some 0] (hhp := .cons Y (QR (fk := Xj) (fv := FV4) (m := t) tZ_109 (fun _=>Ja<|rld<|arD fun _ => Y) fun _=>.ren<|.dat Y) .nil)) fun n1 o2 ok2 i h=>?_
  unfold Q5 at h
  refine Tr<|R2 ZA Y<|Za<|Zj<|If h Y (fun h=>?_) fun h=>?_
  ·
   refine Ze<|I2 (fun o3 ok3=>⟨[(0, .mref 0 1), (5, .bool ok3), (10, .sl 117 (List.map R117 l)), (11, .int .i64 (l.length : Int)), (12, .int .i64 i)], [some ⟨109, [[.mcon (List.map (QX Xj FV4) o3)]]⟩]⟩) h (fun h=>?_) fun o3 ok3 h=>?_
   ·
    refine Zf<|K5 0 5 10 11 12 Y<|Tr<|bE h fun x h_x h=>Rq Y (Zx (ov Y) (ov Y) ZhC h_x)<|Rq Y (Zi (ov Y) Zeq Y Y)<|Rx Y (Zr (row := [_, _, _, _]) 1 Y Zh1 Y tZ_117)<|Rx Y (Zo (ov Y) (ov Y) (Zm Zeq Y) Y Y Y (Nat.le_of_ble_eq_true Y) (Zd Y) Y)<|Za<|K6 0 5 7 10 11 12 Y<|Tr<|Rq Y (Zk (ov Y) Y Y Zgc)<|Rq Y (Zn (ov Y) Y Y Y tS3 Y)<|Ra Y<|Za<|Zf<|?_
    obtain ⟨r2, hl2, ho2⟩ := Qg h
    refine L3 (fun o4 ok4 b=>⟨[(0, .mref 0 1), (5, .bool ok4), (7, .ptr 1 1 0 0), (8, .int .i64 b), (10, .sl 117 (List.map R117 l)), (11, .int .i64 (l.length : Int)), (12, .int .i64 i)], [some ⟨109, [[.mcon (List.map (QX Xj FV4) o4)]]⟩, some ⟨117, [[.int .i64 x.Frame, .int .i64 x.Word, .int .i64 x.Low, .int .i64 x.Bits]]⟩]⟩) hl2 (ES [some 0, some 1] (hhp := .cons Y (QR (fk := Xj) (fv := FV4) (m := o2) tZ_109 (fun _=>Ja<|rld<|arD fun _ => Y) fun _=>.ren<|.dat Y)<|.cons Y (ro1 (by exact tZ_117.symm)<|rld Y) .nil)) fun n2 o4 ok4 b h=>?_
    unfold Q4 at h
    refine Zj<|Tr<|Rm Y<|Rq Y (Zk (ov Y) Y Y Zgc)<|Rq Y (Zn (ov Y) Y Y Y tS3 Y)<|Rq Y (Zk (ov Y) Y Y Ze8)<|Rq Y (Zn (ov Y) Y Y Y tS3 Y)<|R2 ZT Y<|R2 ZA Y<|Za<|K8 0 5 7 8 10 11 12 24 Y<|If h Y (fun h=>?_) fun h=>?_
    ·
     exact Ze<|Zj<|Zf<|K7 0 5 7 8 10 11 12 Y<|Tr<|Rq Y (Zk (ov Y) Y Y ZhU)<|Rq Y (Zn (ov Y) Y Y Y tS3 Y)<|Rq Y (Zk (ov Y) Y Y ZgJ)<|Rq Y (Zn (ov Y) Y Y Y tS3 Y)<|Rm Y<|R_q (.agg<|List.map C3 (#v[x.Frame, x.Word, b] : Vector Int 3).toList) Y (Zey (ys := [_, _, _]) Zrz Zp8 (.cons (cvs (ov Y)<|Zt Y)<|.cons (cvs (ov Y)<|Zt Y)<|.cons (cvs (ov Y)<|Zt Y) .nil) Y)<|Rx Y (Zr (row := (List.map C3 (Vector.replicate 3 0).toList)) 2 Y Zp8 Y tZ_147)<|Rx Y (Zo (ov Y) (ov Y) (Zm ZoW arL) Y Y Y (JD (ZC arL) arL) (Zd<|arC fun _ => Y)<|Jl<|Eq.trans arL<|Eq.symm arL)<|Za<|K8 0 5 7 8 9 10 11 12 Y<|Tr<|Rm Y<|Rm Y<|Rq Y (.guarded (ok4 == true) Y Y Y Y fun h => Zh<|ov Y)<|Rq Y (.guarded (ok4 == true) Y Y Y Y fun h => ZK (ov Y) Y Y Y ZoW (QD<|ZC arL) arL (hns := (nsM fun _ => Y)))<|bE h fun o5 h_o5 h=>Rq Y (.guarded (ok4 == true) Y Y Y Y fun h => ZdM (m := o4) (fk := Xj) (fv := FV4) (k := (#v[x.Frame, x.Word, b] : Vector Int 3)) (z0 := false) (ow Y h) (ow Y h) ZjZ ZoS Y (fun _=>.aggB<|arD fun _ => Y) (Xt Zse Y) (fun _ _=>Y)<|gdT h_o5 h)<|Rq Y (.guarded (ok4 == true) Y Y Y Y fun h => Qa<|ow Y h)<|Rq Y (QC (ov Y) fun hp=>ow Y<|gT hp)<|Ra Y<|Za<|K8 0 5 7 8 9 10 11 12 Y<|Zs<|Rm Y<|Rq Y (ZK (ov Y) Y Y Y ZoW (QD<|ZC arL) arL (hns := (nsM fun _ => Y)))<|Rx Y (ZiB (m := o4) (fk := Xj) (fv := FV4) (k := (#v[x.Frame, x.Word, b] : Vector Int 3)) (v := true) (ov Y) (ov Y) (ov Y) ZjZ ZoS Y fun _=>.aggB<|arD fun _ => Y)<|Za<|K7 0 5 7 8 10 11 12 Y<|Zs<|Rm Y<|R2 ZT Y<|Ra Y<|Za<|⟨_, h, ES [some 0, some 1] (hhp := .cons Y (QR (fk := Xj) (fv := FV4) (m := (ZfG kqV o4 (#v[x.Frame, x.Word, b] : Vector Int 3) true)) tZ_109 (fun _=>Ja<|rld<|arD fun _ => Y) fun _=>.ren<|.dat Y)<|.cons Y (ro1 (by exact tZ_117.symm)<|rld Y) .nil)⟩
    ·
     refine Zu<|?_
     replace h := lx h ▸ ho2
     exact ⟨_, h, ES [some 0] (hhp := .cons Y (QR (fk := Xj) (fv := FV4) (m := o4) tZ_109 (fun _=>Ja<|rld<|arD fun _ => Y) fun _=>.ren<|.dat Y) .nil)⟩
   ·
    exact Zs<|R2 ZT Y<|Rm Y<|Za<|⟨_, h, ES [some 0] (hhp := .cons Y (QR (fk := Xj) (fv := FV4) (m := o3) tZ_109 (fun _=>Ja<|rld<|arD fun _ => Y) fun _=>.ren<|.dat Y) .nil)⟩
  ·
   refine Zu<|?_
   replace h := lx h ▸ ho1
   exact ⟨_, h, ES [some 0] (hhp := .cons Y (QR (fk := Xj) (fv := FV4) (m := o2) tZ_109 (fun _=>Ja<|rld<|arD fun _ => Y) fun _=>.ren<|.dat Y) .nil)⟩
 ·
  refine Tr<|Rm Y<|Ra Y<|Za<|?_
  obtain rfl := rt h
  exact Zg<|ZlB [some 0] Y (.cons (.tmp Y) .nil) (.cons Y (QR (fk := Xj) (fv := FV4) (m := o) tZ_109 (fun _=>Ja<|rld<|arD fun _ => Y) fun _=>.ren<|.dat Y) .nil) Y Y<|.dat Y
theorem ZbT {t : List ((Vector Int 3) × Bool)} {l : List api_Cell} {r : Bool × (List ((Vector Int 3) × Bool))} (h : Q0 t l = some r) :
 GSpec Tryz.prog gl0 50 [.mref 0 1, .sl 44 (List.map R44 l)] [some ⟨109, [[.mcon (List.map (QX Xj FV4) t)]]⟩] (.bool r.1) [some ⟨109, [[.mcon (List.map (QX Xj FV4) r.2)]]⟩] := by
 unfold Q0 at h
 replace h := ZS h
 refine Zdx (by kernel_rfl) Tryz.func50 Y Y<|?_
 intro w0 A W φ0
 refine Tr<|Ra Y<|Za<|K2 0 1 Y<|Tr<|Ra Y<|Za<|I2 (fun o ok=>⟨[(5, .bool ok)], [some ⟨109, [[.mcon (List.map (QX Xj FV4) o)]]⟩]⟩) h (fun h=>?_) fun o ok h=>?_
 ·
  refine Tr<|Rm Y<|Rl tZ_44 Za7 Y<|Rm Y<|Za<|Zf<|?_
  obtain ⟨r1, hl1, ho1⟩ := Qg h
  refine L3 (fun o2 ok2 i=>⟨[(0, .mref 0 1), (5, .bool ok2), (8, .sl 44 (List.map R44 l)), (9, .int .i64 (l.length : Int)), (10, .int .i64 i)], [some ⟨109, [[.mcon (List.map (QX Xj FV4) o2)]]⟩]⟩) hl1 (ES [some 0] (hhp := .cons Y (QR (fk := Xj) (fv := FV4) (m := t) tZ_109 (fun _=>Ja<|rld<|arD fun _ => Y) fun _=>.ren<|.dat Y) .nil)) fun n1 o2 ok2 i h=>?_
  unfold Qw at h
  refine Tr<|R2 ZA Y<|Za<|Zj<|If h Y (fun h=>?_) fun h=>?_
  ·
   refine Ze<|Zj<|Zf<|K5 0 5 8 9 10 Y<|Tr<|bE h fun x h_x h=>Rq Y (Zx (ov Y) (ov Y) Za7 h_x)<|Rq Y (Zi (ov Y) Zeu Y Y)<|Rx Y (Zr (row := [_, _, _, _]) 1 Y ZiO Y tZ_44)<|Rx Y (Zo (ov Y) (ov Y) (Zm Zeu Y) Y Y Y (Nat.le_of_ble_eq_true Y) (Zd Y) Y)<|Za<|K6 0 5 7 8 9 10 Y<|Tr<|Rm Y<|Rq Y (Zk (ov Y) Y Y ZdW)<|Rq Y (Zn (ov Y) Y Y Y Zjz Y)<|bE h fun y h_y h=>Rx Y (ZcA [0] (ZfS h_y) (.cons (ov Y) (.mref _ Y)<|.cons (ov Y) (.dat Y) .nil) (.cons Y (QR (fk := Xj) (fv := FV4) (m := o2) tZ_109 (fun _=>Ja<|rld<|arD fun _ => Y) fun _=>.ren<|.dat Y) .nil) Y (.lent 0 (.inl Y) Y (QR (fk := Xj) (fv := FV4) (m := y.2) tZ_109 (fun _=>Ja<|rld<|arD fun _ => Y) fun _=>.ren<|.dat Y)<|.keep Y Y .nil) Y Y<|.dat Y)<|R1 Qa Y<|Za<|K6 0 5 8 9 10 18 Y<|If h Y (fun h=>?_) fun h=>?_
   ·
    exact K5 0 5 8 9 10 Y<|Zs<|Ra Y<|Za<|Zs<|R2 ZT Y<|Rm Y<|Za<|⟨_, h, ES [some 0] (hhp := .cons Y (QR (fk := Xj) (fv := FV4) (m := y.2) tZ_109 (fun _=>Ja<|rld<|arD fun _ => Y) fun _=>.ren<|.dat Y) .nil)⟩
   ·
    exact Ze<|K5 0 5 8 9 10 Y<|Zs<|R2 ZT Y<|Rm Y<|Za<|⟨_, h, ES [some 0] (hhp := .cons Y (QR (fk := Xj) (fv := FV4) (m := y.2) tZ_109 (fun _=>Ja<|rld<|arD fun _ => Y) fun _=>.ren<|.dat Y) .nil)⟩
  ·
   refine Zu<|?_
   replace h := lx h ▸ ho1
   exact ⟨_, h, ES [some 0] (hhp := .cons Y (QR (fk := Xj) (fv := FV4) (m := o2) tZ_109 (fun _=>Ja<|rld<|arD fun _ => Y) fun _=>.ren<|.dat Y) .nil)⟩
 ·
  refine Tr<|Rm Y<|Ra Y<|Za<|?_
  obtain rfl := rt h
  exact Zg<|ZlB [some 0] Y (.cons (.tmp Y) .nil) (.cons Y (QR (fk := Xj) (fv := FV4) (m := o) tZ_109 (fun _=>Ja<|rld<|arD fun _ => Y) fun _=>.ren<|.dat Y) .nil) Y Y<|.dat Y
theorem ZfJ {p : api_Param} {r : Int} (h : JO p = some r) :
 CSpec Tryz.prog gl0 48 [.agg [.str p.Name, .int .i64 p.Kind, .sl 128 (List.map Z2 p.Parts), .int .i64 p.First, .int .i64 p.Every, .int .i64 p.Times, .int .i64 p.Step, .sl 9 (List.map R9 p.Names)]] (.int .i64 r) := by
 unfold JO at h
 replace h := ZS h
 refine So Tryz.func48 Y fun w0 A=>Tr<|Rq Y (ZD (cva<|ov Y) Y tZ_41 Y)<|Ra Y<|Za<|Zj<|K1 1 Y<|Tr<|Rq Y (Zc (ov Y) ZeS)<|Rq Y (Zb (ov Y) tS9 Y)<|bE h fun y h_y h=>Rq Y (Zl (ZeJ h_y)<|.cons (ov Y) (.b Y) .nil)<|R1 Qa Y<|Za<|K2 1 10 Y<|If h Y (fun h=>?_) fun h=>?_
 ·
  refine K0<|Tr<|Ra Y<|Za<|?_
  obtain rfl := rt h
  exact Zg (Zp Y (.one<|rb Y))
 ·
  refine Ze<|Zj<|K1 1 Y<|Tr<|Rq Y (Zc (ov Y) ZbZ)<|Rq Y (Zb (ov Y) tS3 Y)<|bE h fun y2 h_y2 h=>Rq Y (Zl (QU h_y2)<|.cons (ov Y) (.b Y)<|.cons (ov Y) (.b Y)<|.cons (ov Y) (.b Y) .nil)<|Za<|K2 1 13 Y<|If h Y (fun h=>?_) fun h=>?_
  ·
   refine K0<|Tr<|Ra Y<|Za<|?_
   obtain rfl := rt h
   exact Zg (Zp Y (.one<|rb Y))
  ·
   refine Ze<|Zj<|K1 1 Y<|Tr<|Rq Y (Zi (ov Y) QW Y Y)<|bE h fun y3 h_y3 h=>Rq Y (Zl (ZfK h_y3)<|.cons (ov Y) (.aggB Y) .nil)<|Ra Y<|Za<|K2 1 3 Y<|Tr<|Rm Y<|R2 Z4 Y<|Za<|K3 1 3 17 Y<|If h Y (fun h=>?_) fun h=>?_
   ·
    refine K1 3 Y<|Tr<|Rm Y<|Ra Y<|Za<|?_
    obtain rfl := rt h
    exact Zg (Zp Y (.one<|rb Y))
   ·
    refine Ze<|Zj<|K1 1 Y<|Tr<|Rq Y (Zi (ov Y) QW Y Y)<|bE h fun y4 h_y4 h=>Rq Y (Zl (ZfO h_y4)<|.cons (ov Y) (.aggB Y) .nil)<|Ra Y<|Za<|K2 1 4 Y<|Tr<|Rm Y<|R2 Z4 Y<|Za<|K3 1 4 22 Y<|If h Y (fun h=>?_) fun h=>?_
    ·
     refine K1 4 Y<|Tr<|Rm Y<|Ra Y<|Za<|?_
     obtain rfl := rt h
     exact Zg (Zp Y (.one<|rb Y))
    ·
     refine Ze<|Zj<|K1 1 Y<|Tr<|Rq Y (Zi (ov Y) QW Y Y)<|bE h fun y5 h_y5 h=>Rq Y (Zl (ZgE h_y5)<|.cons (ov Y) (.aggB Y) .nil)<|Ra Y<|Za<|K2 1 5 Y<|Tr<|Rm Y<|R2 Z4 Y<|Za<|K3 1 5 27 Y<|If h Y (fun h=>?_) fun h=>?_
     ·
      refine K1 5 Y<|Tr<|Rm Y<|Ra Y<|Za<|?_
      obtain rfl := rt h
      exact Zg (Zp Y (.one<|rb Y))
     ·
      refine Ze<|K1 1 Y<|Tr<|Rq Y (Zi (ov Y) QW Y Y)<|bE h fun y6 h_y6 h=>Rq Y (Zl (Zb3 h_y6)<|.cons (ov Y) (.aggB Y)<|.cons (ov Y) (.b Y) .nil)<|Ra Y<|Za<|Zj<|K1 6 Y<|Tr<|Rx Y (ZcE 0 Y ZjZ)<|Rm Y<|bE h fun y7 h_y7 h=>Rx Y (ZcA [0] (ZbT h_y7) (.cons (ov Y) (.mref _ Y)<|.cons (ov Y) (.dat Y) .nil) (.cons Y (QR (fk := Xj) (fv := FV4) (m := ([] : List ((Vector Int 3) × Bool))) tZ_109 (fun _=>Ja<|rld<|arD fun _ => Y) fun _=>.ren<|.dat Y) .nil) Y (.lent 0 (.inl Y) Y (QR (fk := Xj) (fv := FV4) (m := y7.2) tZ_109 (fun _=>Ja<|rld<|arD fun _ => Y) fun _=>.ren<|.dat Y) .nil) Y Y<|.dat Y)<|R1 Qa Y<|Za<|K2 6 34 Y<|If h Y (fun h=>?_) fun h=>?_
      ·
       refine K0<|Tr<|Ra Y<|Za<|?_
       obtain rfl := rt h
       exact Zg (Zp Y (.one<|rb Y))
      ·
       refine Ze<|Zj<|K1 6 Y<|Tr<|Rm Y<|Rl tZ_44 Za7 Y<|R2 Qb Y<|Za<|K1 37 Y<|If h Y (fun h=>?_) fun h=>?_
       ·
        refine K0<|Tr<|Ra Y<|Za<|?_
        obtain rfl := rt h
        exact Zg (Zp Y (.one<|rb Y))
       ·
        refine Ze<|K0<|Tr<|Ra Y<|Za<|?_
        obtain rfl := rt h
        exact Zg (Zp Y (.one<|rb Y))
theorem ZiN {m : api_Map} {r : Int × Int} (h : ZcQ m = some r) :
 CSpec Tryz.prog gl0 20 [.agg [.int .i64 m.Version, .sl 41 (List.map R41 m.Params)]] (.tuple [.int .i64 r.1, .int .i64 r.2]) := by
 unfold ZcQ at h
 replace h := ZS h
 refine So Tryz.func20 Y fun w0 A=>Tr<|Rq Y (ZD (cva<|ov Y) Y tZ_24 Y)<|Ra Y<|Ra Y<|Za<|Zj<|K1 1 Y<|Tr<|Rq Y (Zc (ov Y) ZjY)<|Rq Y (Zb (ov Y) tS3 Y)<|bE h fun y h_y h=>Rq Y (Zl (QU h_y)<|.cons (ov Y) (.b Y)<|.cons (ov Y) (.b Y)<|.cons (ov Y) (.b Y) .nil)<|Za<|K2 1 17 Y<|If h Y (fun h=>?_) fun h=>?_
 ·
  refine K0<|Tr<|Ra Y<|Ra Y<|Za<|?_
  obtain rfl := rt h
  exact Zg (Zp Y (.two (rb Y)<|rb Y))
 ·
  refine Ze<|Zj<|K1 1 Y<|Tr<|Rq Y (Zc (ov Y) Jp)<|Rq Y (Zb (ov Y) ZdK Y)<|Rl tZ_41 ZaT Y<|R2 Qq Y<|Za<|K2 1 21 Y<|If h Y (fun h=>?_) fun h=>?_
  ·
   refine K0<|Tr<|Ra Y<|Ra Y<|Za<|?_
   obtain rfl := rt h
   exact Zg (Zp Y (.two (rb Y)<|rb Y))
  ·
   refine Ze<|K1 1 Y<|Tr<|Ra Y<|Za<|J0 (fun j => (.inr j)) ⟨[(1, .rp [.int .i64 m.Version, .sl 41 (List.map R41 m.Params)] 0), (4, .int .i64 0)], []⟩ h (fun h=>?_) fun h=>?_
   ·
    refine Tr<|Rq Y (Zc (ov Y) Jp)<|Rq Y (Zb (ov Y) ZdK Y)<|Rl tZ_41 ZaT Y<|Rm Y<|Za<|Zf<|?_
    obtain ⟨r1, hl1, ho1⟩ := Qg h
    refine L1 (fun i=>⟨[(1, .rp [.int .i64 m.Version, .sl 41 (List.map R41 m.Params)] 0), (4, .int .i64 0), (23, .sl 41 (List.map R41 m.Params)), (24, .int .i64 (m.Params.length : Int)), (25, .int .i64 i)], []⟩) hl1 (ES []) fun n1 i h=>?_
    unfold Za2 at h
    refine Tr<|R2 ZA Y<|Za<|Zj<|If h Y (fun h=>?_) fun h=>?_
    ·
     refine Ze<|J0 (fun j => (.inr j)) ⟨[(1, .rp [.int .i64 m.Version, .sl 41 (List.map R41 m.Params)] 0), (4, .int .i64 0), (23, .sl 41 (List.map R41 m.Params)), (24, .int .i64 (m.Params.length : Int)), (25, .int .i64 i)], []⟩ h (fun h=>?_) fun h=>?_
     ·
      refine Zf<|K5 1 4 23 24 25 Y<|Tr<|Rm Y<|bE h fun x h_x h=>Rq Y (Zx (ov Y) (ov Y) ZaT h_x)<|Rq Y (Zi (ov Y) QW Y Y)<|Rx Y (Zr (row := [_, _, _, _, _, _, _, _]) 0 Y ZiS Y tZ_41)<|Ra Y<|Rx Y (Zo (ov Y) (ov Y) (Zm QW Y) Y Y Y (Nat.le_of_ble_eq_true Y) (Zd Y) Y)<|Za<|Zj<|K7 1 4 5 6 23 24 25 Y<|Tr<|Rq Y (ZK (ov Y) Y Y Y QW Y Y)<|bE h fun y2 h_y2 h=>Rq Y (Zl (ZfJ h_y2)<|.cons (ov Y) (.aggB Y) .nil)<|Ra Y<|Za<|K8 1 4 5 6 7 23 24 25 Y<|Tr<|Rm Y<|R2 Z4 Y<|Za<|K9 1 4 5 6 7 23 24 25 33 Y<|If h Y (fun h=>?_) fun h=>?_
      ·
       refine K2 5 7 Y<|Tr<|Rm Y<|Rm Y<|Ra Y<|Ra Y<|Za<|?_
       replace h := lx h ▸ ho1
       obtain rfl := rt h
       exact Zg (Zp Y (.two (rb Y)<|rb Y))
      ·
       refine Ze<|K7 1 4 5 6 23 24 25 Y<|Tr<|Rq Y (Zc (ov Y) Jp)<|Rq Y (Zb (ov Y) ZdK Y)<|Rm Y<|bE h fun l h_l h=>Rq Y (Zdy (ov Y) ZaT on (oi<|ov Y) h_l)<|Rl tZ_41 ZaT Y<|Rm Y<|Za<|Zf<|?_
       obtain ⟨r2, hl2, ho2⟩ := Qg h
       refine L1 (fun i2=>⟨[(1, .rp [.int .i64 m.Version, .sl 41 (List.map R41 m.Params)] 0), (4, .int .i64 0), (5, .int .i64 i), (6, .ptr 0 1 0 0), (23, .sl 41 (List.map R41 m.Params)), (24, .int .i64 (m.Params.length : Int)), (25, .int .i64 i), (39, .sl 41 (List.map R41 l)), (40, .int .i64 (l.length : Int)), (41, .int .i64 i2)], [some ⟨41, [[.str x.Name, .int .i64 x.Kind, .sl 128 (List.map Z2 x.Parts), .int .i64 x.First, .int .i64 x.Every, .int .i64 x.Times, .int .i64 x.Step, .sl 9 (List.map R9 x.Names)]]⟩]⟩) hl2 (ES [some 0]) fun n2 i2 h=>?_
       unfold Za1 at h
       refine Tr<|R2 ZA Y<|Za<|Zj<|If h Y (fun h=>?_) fun h=>?_
       ·
        refine Ze<|Zj<|Zf<|K10 1 4 5 6 23 24 25 39 40 41 Y<|Tr<|bE h fun x2 h_x2 h=>Rq Y (Zx (ov Y) (ov Y) ZaT h_x2)<|Rq Y (Zi (ov Y) QW Y Y)<|Rx Y (Zr (row := [_, _, _, _, _, _, _, _]) 1 Y ZiS Y tZ_41)<|Rx Y (Zo (ov Y) (ov Y) (Zm QW Y) Y Y Y (Nat.le_of_ble_eq_true Y) (Zd Y) Y)<|Za<|K11 1 4 5 6 9 23 24 25 39 40 41 Y<|Tr<|Rq Y (Zk (ov Y) Y Y ZeS)<|Rq Y (Zn (ov Y) Y Y Y tS9 Y)<|Rq Y (Zk (ov Y) Y Y ZeS)<|Rq Y (Zn (ov Y) Y Y Y tS9 Y)<|R2 ZdA Y<|Za<|K11 1 4 5 6 23 24 25 39 40 41 49 Y<|If h Y (fun h=>?_) fun h=>?_
        ·
         refine K1 5 Y<|Tr<|Rm Y<|Ra Y<|Ra Y<|Za<|?_
         replace h := lx h ▸ ho2
         replace h := lx h ▸ ho1
         obtain rfl := rt h
         exact Zg (Zp Y (.two (rb Y)<|rb Y))
        ·
         exact Ze<|K10 1 4 5 6 23 24 25 39 40 41 Y<|Zs<|R2 ZT Y<|Rm Y<|Za<|⟨_, h, ES [some 0]⟩
       ·
        refine Zu<|?_
        replace h := lx h ▸ ho2
        exact ⟨(), h, ES []⟩
     ·
      replace h := elr h
      replace h := t0i h
      exact Zs<|R2 ZT Y<|Rm Y<|Za<|⟨_, h, ES []⟩
    ·
     refine Zu<|?_
     replace h := lx h ▸ ho1
     exact ⟨(), h, ES []⟩
   ·
    replace h := elr h
    replace h := t0i h
    refine J0 (fun j => (.inr j)) ⟨[(1, .rp [.int .i64 m.Version, .sl 41 (List.map R41 m.Params)] 0)], []⟩ h (fun h=>?_) fun h=>?_
    ·
     refine Tr<|Rq Y (Zc (ov Y) Jp)<|Rq Y (Zb (ov Y) ZdK Y)<|Rl tZ_41 ZaT Y<|Rm Y<|Za<|Zf<|?_
     obtain ⟨r3, hl3, ho3⟩ := Qg h
     refine L2 (fun n i3=>⟨[(1, .rp [.int .i64 m.Version, .sl 41 (List.map R41 m.Params)] 0), (4, .int .i64 n), (54, .sl 41 (List.map R41 m.Params)), (55, .int .i64 (m.Params.length : Int)), (56, .int .i64 i3)], []⟩) hl3 (ES []) fun n3 n i3 h=>?_
     unfold Zaf at h
     refine Tr<|R2 ZA Y<|Za<|Zj<|If h Y (fun h=>?_) fun h=>?_
     ·
      refine Ze<|Zj<|Zf<|K5 1 4 54 55 56 Y<|Tr<|Rm Y<|bE h fun x3 h_x3 h=>Rq Y (Zx (ov Y) (ov Y) ZaT h_x3)<|Rq Y (Zi (ov Y) QW Y Y)<|Rx Y (Zr (row := [_, _, _, _, _, _, _, _]) 0 Y ZiS Y tZ_41)<|Ra Y<|Rx Y (Zo (ov Y) (ov Y) (Zm QW Y) Y Y Y (Nat.le_of_ble_eq_true Y) (Zd Y) Y)<|Za<|K7 1 4 10 11 54 55 56 Y<|Tr<|Rm Y<|Rq Y (ZK (ov Y) Y Y Y QW Y Y)<|Rm Y<|bE h fun y3 h_y3 h=>Rq Y (Zl (Zb3 h_y3)<|.cons (ov Y) (.aggB Y)<|.cons (ov Y) (.b Y) .nil)<|Rl tZ_44 Za7 Y<|R2 ZT Y<|Ra Y<|Za<|K6 1 4 10 54 55 56 Y<|Tr<|Rm Y<|R2 Qq Y<|Za<|K7 1 4 10 54 55 56 68 Y<|If h Y (fun h=>?_) fun h=>?_
      ·
       refine K1 10 Y<|Tr<|Rm Y<|Ra Y<|Ra Y<|Za<|?_
       replace h := lx h ▸ ho3
       obtain rfl := rt h
       exact Zg (Zp Y (.two (rb Y)<|rb Y))
      ·
       exact Ze<|K5 1 4 54 55 56 Y<|Zs<|R2 ZT Y<|Rm Y<|Za<|⟨_, h, ES []⟩
     ·
      refine Zu<|?_
      replace h := lx h ▸ ho3
      exact ⟨(), h, ES []⟩
    ·
     replace h := elr h
     replace h := t0i h
     refine Tr<|Rx Y (ZcE 0 Y ZjZ)<|Ra Y<|Za<|J0 (fun j => (.inr j)) ⟨[], []⟩ h (fun h=>?_) fun h=>?_
     ·
      refine K2 1 12 Y<|Tr<|Rq Y (Zc (ov Y) Jp)<|Rq Y (Zb (ov Y) ZdK Y)<|Rl tZ_41 ZaT Y<|Rm Y<|Za<|Zf<|?_
      obtain ⟨r4, hl4, ho4⟩ := Qg h
      refine L2 (fun t i4=>⟨[(12, .mref 0 1), (73, .sl 41 (List.map R41 m.Params)), (74, .int .i64 (m.Params.length : Int)), (75, .int .i64 i4)], [some ⟨109, [[.mcon (List.map (QX Xj FV4) t)]]⟩]⟩) hl4 (ES [some 0] (hhp := .cons Y (QR (fk := Xj) (fv := FV4) (m := ([] : List ((Vector Int 3) × Bool))) tZ_109 (fun _=>Ja<|rld<|arD fun _ => Y) fun _=>.ren<|.dat Y) .nil)) fun n4 t i4 h=>?_
      unfold Zab at h
      refine Tr<|R2 ZA Y<|Za<|Zj<|If h Y (fun h=>?_) fun h=>?_
      ·
       refine Ze<|Zj<|Zf<|K4 12 73 74 75 Y<|Tr<|Rm Y<|bE h fun x4 h_x4 h=>Rq Y (Zx (ov Y) (ov Y) ZaT h_x4)<|Rq Y (Zi (ov Y) QW Y Y)<|Rx Y (Zr (row := [_, _, _, _, _, _, _, _]) 1 Y ZiS Y tZ_41)<|Ra Y<|Rx Y (Zo (ov Y) (ov Y) (Zm QW Y) Y Y Y (Nat.le_of_ble_eq_true Y) (Zd Y) Y)<|Za<|K6 12 13 14 73 74 75 Y<|Tr<|Rm Y<|Rq Y (ZK (ov Y) Y Y Y QW Y Y)<|Rm Y<|bE h fun y4 h_y4 h=>Rq Y (Zl (Zb3 h_y4)<|.cons (ov Y) (.aggB Y)<|.cons (ov Y) (.b Y) .nil)<|bE h fun y5 h_y5 h=>Rx Y (ZcA [0] (ZbT h_y5) (.cons (ov Y) (.mref _ Y)<|.cons (ov Y) (.dat Y) .nil) (.cons Y (QR (fk := Xj) (fv := FV4) (m := t) tZ_109 (fun _=>Ja<|rld<|arD fun _ => Y) fun _=>.ren<|.dat Y) .nil) Y (.lent 0 (.inl Y) Y (QR (fk := Xj) (fv := FV4) (m := y5.2) tZ_109 (fun _=>Ja<|rld<|arD fun _ => Y) fun _=>.ren<|.dat Y)<|.keep Y Y .nil) Y Y<|.dat Y)<|R1 Qa Y<|Za<|K6 12 13 73 74 75 85 Y<|If h Y (fun h=>?_) fun h=>?_
       ·
        refine K1 13 Y<|Tr<|Rm Y<|Ra Y<|Ra Y<|Za<|?_
        replace h := lx h ▸ ho4
        obtain rfl := rt h
        exact Zg (Zp Y (.two (rb Y)<|rb Y))
       ·
        exact Ze<|K4 12 73 74 75 Y<|Zs<|R2 ZT Y<|Rm Y<|Za<|⟨_, h, ES [some 0] (hhp := .cons Y (QR (fk := Xj) (fv := FV4) (m := y5.2) tZ_109 (fun _=>Ja<|rld<|arD fun _ => Y) fun _=>.ren<|.dat Y) .nil)⟩
      ·
       refine Zu<|?_
       replace h := lx h ▸ ho4
       exact ⟨(), h, ES []⟩
     ·
      replace h := elr h
      replace h := t0i h
      refine Tr<|Ra Y<|Ra Y<|Za<|?_
      obtain rfl := rt h
      exact Zg (Zp Y (.two (rb Y)<|rb Y))
theorem ZgT {m : api_Map} {r : (List api_Cell)} (h : Za0 m = some r) :
 CSpec Tryz.prog gl0 21 [.agg [.int .i64 m.Version, .sl 41 (List.map R41 m.Params)]] (.sl 44 (List.map R44 r)) := by
 unfold Za0 at h
 replace h := ZS h
 refine So Tryz.func21 Y fun w0 A=>Tr<|Rq Y (ZD (cva<|ov Y) Y tZ_24 Y)<|Ra Y<|Za<|K1 1 Y<|Tr<|Ra Y<|Za<|I1 (fun out=>⟨[(3, .own 0 out.length)], [some ⟨44, List.map R44 out⟩]⟩) h (fun h=>?_) fun out h=>?_
 ·
  refine Tr<|Rq Y (Zc (ov Y) Jp)<|Rq Y (Zb (ov Y) ZdK Y)<|Rl tZ_41 ZaT Y<|Rm Y<|Za<|Zf<|?_
  obtain ⟨r1, hl1, ho1⟩ := Qg h
  refine L2 (fun out2 i=>⟨[(3, .own 0 out2.length), (7, .sl 41 (List.map R41 m.Params)), (8, .int .i64 (m.Params.length : Int)), (9, .int .i64 i)], [some ⟨44, List.map R44 out2⟩]⟩) hl1 (ES [none]) fun n1 out2 i h=>?_
  unfold ZbX at h
  refine Tr<|R2 ZA Y<|Za<|Zj<|If h Y (fun h=>?_) fun h=>?_
  ·
   exact Ze<|Zj<|Zf<|K4 3 7 8 9 Y<|Tr<|Rm Y<|bE h fun x h_x h=>Rq Y (Zx (ov Y) (ov Y) ZaT h_x)<|Rq Y (Zi (ov Y) QW Y Y)<|Rx Y (Zr (row := [_, _, _, _, _, _, _, _]) 1 Y ZiS Y tZ_41)<|Ra Y<|Rx Y (Zo (ov Y) (ov Y) (Zm QW Y) Y Y Y (Nat.le_of_ble_eq_true Y) (Zd Y) Y)<|Za<|K6 3 4 5 7 8 9 Y<|Zs<|Rm Y<|Rq Y (ZK (ov Y) Y Y Y QW Y Y)<|Rm Y<|bE h fun y h_y h=>Rq Y (Zl (Zb3 h_y)<|.cons (ov Y) (.aggB Y)<|.cons (ov Y) (.b Y) .nil)<|bE h fun l h_l h=>Rx Y (Zhb (ov Y) (Xe (ov Y) tZ_44) Za7 Y Y (fun _=>Zd Y) Y h_l)<|Ra Y<|Za<|K4 3 7 8 9 Y<|Zs<|R2 ZT Y<|Rm Y<|Za<|⟨_, h, ES [some 0]⟩
  ·
   refine Zu<|?_
   replace h := lx h ▸ ho1
   exact ⟨_, h, ES [some 0]⟩
 ·
  refine Tr<|Rm Y<|Ra Y<|Za<|?_
  obtain rfl := rt h
  exact Zg (Zp Y (.one<|.tmp Y<|View.ownM Y Y D44))
theorem ZiX {m : api_Map} {r : (List api_Cell) × Int} (h : ZcT m = some r) :
 CSpec Tryz.prog gl0 8 [.agg [.int .i64 m.Version, .sl 41 (List.map R41 m.Params)]] (.tuple [.sl 44 (List.map R44 r.1), .int .i64 r.2]) := by
 unfold ZcT at h
 replace h := ZS h
 refine So Tryz.func8 Y fun w0 A=>Tr<|Rq Y (ZD (cva<|ov Y) Y tZ_24 Y)<|Ra Y<|Ra Y<|Za<|Zj<|K1 1 Y<|Tr<|Rq Y (Zi (ov Y) Zfk Y Y)<|bE h fun y h_y h=>Rq Y (Zl (ZiN h_y)<|.cons (ov Y) (.aggB Y) .nil)<|Rm Y<|Rq Y (Zq (ov Y) Y)<|Rq Y (Zq (ov Y) Y)<|Ra Y<|Ra Y<|Za<|K2 1 5 Y<|Tr<|Rm Y<|R2 Z4 Y<|Za<|K3 1 5 12 Y<|If h Y (fun h=>?_) fun h=>?_
 ·
  refine K1 5 Y<|Tr<|Rm Y<|Ra Y<|Ra Y<|Za<|?_
  obtain rfl := rt h
  exact Zg (Zp Y (.two (.tmp Y<|View.nils 44)<|rb Y))
 ·
  refine Ze<|K1 1 Y<|Tr<|Rq Y (Zi (ov Y) Zfk Y Y)<|bE h fun y2 h_y2 h=>Rq Y (Zl (ZgT h_y2)<|.cons (ov Y) (.aggB Y) .nil)<|Ra Y<|Ra Y<|Za<|?_
  obtain rfl := rt h
  exact Zg (Zp Y (.two (rb Y)<|rb Y))
theorem Ze4 {v : Int} {r : Int} (h : Xm v = some r) :
 CSpec Tryz.prog gl0 55 [.int .i64 v] (.int .i64 r) := by
 unfold Xm at h
 replace h := ZS h
 refine So Tryz.func55 Y fun w0 A=>Tr<|Ra Y<|Za<|Tr<|Rm Y<|Ra Y<|Za<|?_
 obtain rfl := rt h
 exact Zg (Zp Y (.one<|rb Y))
theorem ZdN {raw : Int} {c0 : Int} {r : Int × Bool} (h : ZaR raw c0 = some r) :
 CSpec Tryz.prog gl0 57 [.int .i64 raw, .rp [.int .i64 c0] 0] (.tuple [.int .i64 r.1, .bool r.2]) := by
 unfold ZaR at h
 replace h := ZS h
 refine So Tryz.func57 Y fun w0 A=>Tr<|Ra Y<|Ra Y<|Za<|Td md0<|D1 0 Zh Y<|D1 1 Zh Y<|Dq 2 Y (Zb (ov Y) tS3 Y)<|D2 3 ZbO Y<|D1 4 Zy Y<|D1 5 Zy Y<|Dd<|?_
 obtain rfl := rt h
 exact Zg (Zp Y (.two (rb Y)<|rb Y))
theorem Zar {high : Int} {r : layout_number} (h : Qu high = some r) :
 CSpec Tryz.prog gl0 56 [.int .i64 high, .rp [.fn 55 []] 0] (.agg [.int .i64 r.low, .int .i64 r.high, .fn r.encode.f r.encode.c, .fn r.decode.f r.decode.c]) := by
 unfold Qu at h
 replace h := ZS h
 refine So Tryz.func56 Y fun w0 A=>Tr<|Rq Y (ZD (cvs (ov Y)<|Zt Y) Y tZ_3 Y)<|Rx Y (Zr (row := [_, _, _, _]) 0 Y Zgo Y tZ_77)<|Za<|K3 1 2 3 Y<|Tr<|Rq Y (Zb (ov Y) tS3 Y)<|Rq Y (Zb (ov Y) Zqx Y)<|Rq Y (Qk<|.cons (ov Y) .nil)<|Rq Y (Qz (ys := [_, _, _, _]) ZlK ZlW Zgo (.cons (cvs (ov Y)<|Zt Y)<|.cons (cvs (ov Y)<|Zt Y)<|.cons (cvs (ov Y)<|Zt Y)<|.cons (cvs (ov Y)<|Zt Y) .nil) Y)<|Rx Y (Zo (ov Y) (ov Y) (Zm ZbP Y) Y Y Y (Nat.le_of_ble_eq_true Y) (Zd Y) Y)<|Za<|?_
 obtain rfl := rt h
 exact Zg (Zp Y (.one<|.agg Y Y Y Y ZbP Y Y<|.cons (Dat.view<|.b Y)<|.cons (Dat.view<|.b Y)<|.cons (Dat.view .fn)<|.cons (Dat.view<|.fnC<|.cons (.b Y) .nil) .nil))
theorem ZH {high : Int} {r : layout_number} (h : Qu high = some r) : Zcp r.encode ∧ Zcr r.decode := by
  have key : ZeX (fun r => Zcp r.encode ∧ Zcr r.decode) (Qu high) := by
    unfold Qu
    repeat' (first | exact Zcx | with_reducible refine Zep ?_ ?_ | with_reducible refine Zdc fun _ _ => ?_ | with_reducible refine Zhk ?_)
    all_goals first | exact ZaM ⟨⟨rfl, fun z0 _ hz => Ze4 hz⟩, ⟨rfl, fun z0 _ hz => ZdN hz⟩⟩
  exact key r h
theorem ZeF {c1 : Int} {r : layout_number} (h : Xo c1 = some r) :
 CSpec Tryz.prog gl0 58 [.rp [.fn 56 [.rp [.fn 55 []] 0]] 0, .rp [.int .i64 c1] 0] (.agg [.int .i64 r.low, .int .i64 r.high, .fn r.encode.f r.encode.c, .fn r.decode.f r.decode.c]) := by
 unfold Xo at h
 replace h := ZS h
 refine So Tryz.func58 Y fun w0 A=>Tr<|Rx Y (Zr (row := [_, _, _, _]) 0 Y Zgo Y tZ_77)<|Za<|Tr<|Rq Y (Zb (ov Y) Zms Y)<|Rq Y (Zb (ov Y) tS3 Y)<|R2 ZfQ Y<|R2 ZaI Y<|bE h fun y h_y h=>Rq Y (Zam (ov Y) Y (Zar h_y)<|.cons (ov Y) (.b Y) .nil)<|Rx Y (Zo (ov Y) (ov Y) (Zm ZbP Y) Y Y Y (Nat.le_of_ble_eq_true Y) (Zd Y) Y)<|Za<|?_
 obtain rfl := rt h
 exact Zg (Zp Y (.one<|.agg Y Y Y Y ZbP Y Y<|.cons (Dat.view<|.b Y)<|.cons (Dat.view<|.b Y)<|.cons (Dat.view<|Dat.fnC<|.refl fun x hx => .b<|List.all_eq_true.1 (((ZH h_y).1)).1 x hx)<|.cons (Dat.view<|Dat.fnC<|.refl fun x hx => .b<|List.all_eq_true.1 (((ZH h_y).2)).1 x hx) .nil))
theorem XT {c1 : Int} {r : layout_number} (h : Xo c1 = some r) : Zcp r.encode ∧ Zcr r.decode := by
  have key : ZeX (fun r => Zcp r.encode ∧ Zcr r.decode) (Xo c1) := by
    unfold Xo
    repeat' (first | exact Zcx | with_reducible refine Zep ?_ ?_ | with_reducible refine Zdc fun _ _ => ?_ | with_reducible refine Zhk ?_)
    all_goals first | exact ZaM ⟨((ZH (by assumption)).1), ((ZH (by assumption)).2)⟩
  exact key r h
theorem Zek  {r : layout_number} (h : Xl  = some r) :
 CSpec Tryz.prog gl0 59 [.rp [.fn 56 [.rp [.fn 55 []] 0]] 0] (.agg [.int .i64 r.low, .int .i64 r.high, .fn r.encode.f r.encode.c, .fn r.decode.f r.decode.c]) := by
 unfold Xl at h
 replace h := ZS h
 refine So Tryz.func59 Y fun w0 A=>Tr<|Rx Y (Zr (row := [_, _, _, _]) 0 Y Zgo Y tZ_77)<|Za<|Tr<|Rq Y (Zb (ov Y) Zms Y)<|bE h fun y h_y h=>Rq Y (Zam (ov Y) Y (Zar h_y)<|.cons (ov Y) (.b Y) .nil)<|Rx Y (Zo (ov Y) (ov Y) (Zm ZbP Y) Y Y Y (Nat.le_of_ble_eq_true Y) (Zd Y) Y)<|Za<|?_
 obtain rfl := rt h
 exact Zg (Zp Y (.one<|.agg Y Y Y Y ZbP Y Y<|.cons (Dat.view<|.b Y)<|.cons (Dat.view<|.b Y)<|.cons (Dat.view<|Dat.fnC<|.refl fun x hx => .b<|List.all_eq_true.1 (((ZH h_y).1)).1 x hx)<|.cons (Dat.view<|Dat.fnC<|.refl fun x hx => .b<|List.all_eq_true.1 (((ZH h_y).2)).1 x hx) .nil))
theorem XV  {r : layout_number} (h : Xl  = some r) : Zcp r.encode ∧ Zcr r.decode := by
  have key : ZeX (fun r => Zcp r.encode ∧ Zcr r.decode) (Xl ) := by
    unfold Xl
    repeat' (first | exact Zcx | with_reducible refine Zep ?_ ?_ | with_reducible refine Zdc fun _ _ => ?_ | with_reducible refine Zhk ?_)
    all_goals first | exact ZaM ⟨((ZH (by assumption)).1), ((ZH (by assumption)).2)⟩
  exact key r h
theorem Zev {c1 : api_Param} {r : layout_number} (h : Xp c1 = some r) :
 CSpec Tryz.prog gl0 60 [.rp [.fn 56 [.rp [.fn 55 []] 0]] 0, .rp [.str c1.Name, .int .i64 c1.Kind, .sl 128 (List.map Z2 c1.Parts), .int .i64 c1.First, .int .i64 c1.Every, .int .i64 c1.Times, .int .i64 c1.Step, .sl 9 (List.map R9 c1.Names)] 0] (.agg [.int .i64 r.low, .int .i64 r.high, .fn r.encode.f r.encode.c, .fn r.decode.f r.decode.c]) := by
 unfold Xp at h
 replace h := ZS h
 refine So Tryz.func60 Y fun w0 A=>Tr<|Rx Y (Zr (row := [_, _, _, _]) 0 Y Zgo Y tZ_77)<|Za<|Tr<|Rq Y (Zb (ov Y) Zms Y)<|Rq Y (Zc (ov Y) ZbU)<|Rq Y (Zb (ov Y) Zhg Y)<|Rl tZ_9 ZdO Y<|R2 ZaI Y<|bE h fun y h_y h=>Rq Y (Zam (ov Y) Y (Zar h_y)<|.cons (ov Y) (.b Y) .nil)<|Rx Y (Zo (ov Y) (ov Y) (Zm ZbP Y) Y Y Y (Nat.le_of_ble_eq_true Y) (Zd Y) Y)<|Za<|?_
 obtain rfl := rt h
 exact Zg (Zp Y (.one<|.agg Y Y Y Y ZbP Y Y<|.cons (Dat.view<|.b Y)<|.cons (Dat.view<|.b Y)<|.cons (Dat.view<|Dat.fnC<|.refl fun x hx => .b<|List.all_eq_true.1 (((ZH h_y).1)).1 x hx)<|.cons (Dat.view<|Dat.fnC<|.refl fun x hx => .b<|List.all_eq_true.1 (((ZH h_y).2)).1 x hx) .nil))
theorem XR {c1 : api_Param} {r : layout_number} (h : Xp c1 = some r) : Zcp r.encode ∧ Zcr r.decode := by
  have key : ZeX (fun r => Zcp r.encode ∧ Zcr r.decode) (Xp c1) := by
    unfold Xp
    repeat' (first | exact Zcx | with_reducible refine Zep ?_ ?_ | with_reducible refine Zdc fun _ _ => ?_ | with_reducible refine Zhk ?_)
    all_goals first | exact ZaM ⟨((ZH (by assumption)).1), ((ZH (by assumption)).2)⟩
  exact key r h
theorem Zd6 {v : Int} {c0 : Int} {r : Int} (h : ZaP v c0 = some r) :
 CSpec Tryz.prog gl0 62 [.int .i64 v, .rp [.int .i64 c0] 0] (.int .i64 r) := by
 unfold ZaP at h
 replace h := ZS h
 refine So Tryz.func62 Y fun w0 A=>Tr<|Ra Y<|Za<|Tr<|Rm Y<|Rq Y (Zb (ov Y) tS3 Y)<|R2 ZfQ Y<|R2 ZaI Y<|R2 Zcj Y<|Ra Y<|Za<|?_
 obtain rfl := rt h
 exact Zg (Zp Y (.one<|rb Y))
theorem Zd5 {raw : Int} {c0 : Int} {r : Int × Bool} (h : Xx raw c0 = some r) :
 CSpec Tryz.prog gl0 63 [.int .i64 raw, .rp [.int .i64 c0] 0] (.tuple [.int .i64 r.1, .bool r.2]) := by
 unfold Xx at h
 replace h := ZS h
 refine So Tryz.func63 Y fun w0 A=>Tr<|Ra Y<|Ra Y<|Za<|Zj<|K2 0 1 Y<|Tr<|Rm Y<|Rq Y (Zb (ov Y) tS3 Y)<|R2 ZaX Y<|Za<|K3 0 1 7 Y<|If h Y (fun h=>?_) fun h=>?_
 ·
  refine K2 0 1 Y<|Zs<|Rm Y<|Rq Y (Zb (ov Y) tS3 Y)<|R2 ZfQ Y<|R2 ZaI Y<|Ra Y<|Za<|K1 0 Y<|Tr<|Rm Y<|Ra Y<|Ra Y<|Za<|?_
  obtain rfl := rt h
  exact Zg (Zp Y (.two (rb Y)<|rb Y))
 ·
  refine Ze<|K1 0 Y<|Tr<|Rm Y<|Ra Y<|Ra Y<|Za<|?_
  obtain rfl := rt h
  exact Zg (Zp Y (.two (rb Y)<|rb Y))
theorem ZeP {c0 : Int} {r : layout_number} (h : Xk c0 = some r) :
 CSpec Tryz.prog gl0 61 [.rp [.int .i64 c0] 0] (.agg [.int .i64 r.low, .int .i64 r.high, .fn r.encode.f r.encode.c, .fn r.decode.f r.decode.c]) := by
 unfold Xk at h
 replace h := ZS h
 refine So Tryz.func61 Y fun w0 A=>Tr<|Rx Y (Zr (row := [_, _, _, _]) 0 Y Zgo Y tZ_77)<|Za<|Tr<|Rq Y (Zb (ov Y) tS3 Y)<|Rq Y (Zi5 (ov Y) Y)<|Rq Y (Zb (ov Y) tS3 Y)<|R2 ZaI Y<|Rq Y (Qk<|.cons (ov Y) .nil)<|Rq Y (Qk<|.cons (ov Y) .nil)<|Rq Y (Qz (ys := [_, _, _, _]) ZlK ZlW Zgo (.cons (cvs (ov Y)<|Zt Y)<|.cons (cvs (ov Y)<|Zt Y)<|.cons (cvs (ov Y)<|Zt Y)<|.cons (cvs (ov Y)<|Zt Y) .nil) Y)<|Rx Y (Zo (ov Y) (ov Y) (Zm ZbP Y) Y Y Y (Nat.le_of_ble_eq_true Y) (Zd Y) Y)<|Za<|?_
 obtain rfl := rt h
 exact Zg (Zp Y (.one<|.agg Y Y Y Y ZbP Y Y<|.cons (Dat.view<|.b Y)<|.cons (Dat.view<|.b Y)<|.cons (Dat.view<|.fnC<|.cons (.b Y) .nil)<|.cons (Dat.view<|.fnC<|.cons (.b Y) .nil) .nil))
theorem XW {c0 : Int} {r : layout_number} (h : Xk c0 = some r) : Zcp r.encode ∧ Zcr r.decode := by
  have key : ZeX (fun r => Zcp r.encode ∧ Zcr r.decode) (Xk c0) := by
    unfold Xk
    repeat' (first | exact Zcx | with_reducible refine Zep ?_ ?_ | with_reducible refine Zdc fun _ _ => ?_ | with_reducible refine Zhk ?_)
    all_goals first | exact ZaM ⟨⟨rfl, fun z0 _ hz => Zd6 hz⟩, ⟨rfl, fun z0 _ hz => Zd5 hz⟩⟩
  exact key r h
theorem ZdU {v : Int} {c0 : Int} {r : Int} (h : Xz v c0 = some r) :
 CSpec Tryz.prog gl0 65 [.int .i64 v, .rp [.int .i64 c0] 0] (.int .i64 r) := by
 unfold Xz at h
 replace h := ZS h
 refine So Tryz.func65 Y fun w0 A=>Tr<|Ra Y<|Za<|Zj<|K2 0 1 Y<|Tr<|Rm Y<|R2 ZA Y<|Za<|K3 0 1 5 Y<|If h Y (fun h=>?_) fun h=>?_
 ·
  refine K2 0 1 Y<|Tr<|Rq Y (Zb (ov Y) tS3 Y)<|Rm Y<|R2 ZaI Y<|Ra Y<|Za<|?_
  obtain rfl := rt h
  exact Zg (Zp Y (.one<|rb Y))
 ·
  refine Ze<|K1 0 Y<|Tr<|Rm Y<|Ra Y<|Za<|?_
  obtain rfl := rt h
  exact Zg (Zp Y (.one<|rb Y))
theorem ZdS {raw : Int} {c0 : Int} {r : Int × Bool} (h : XA raw c0 = some r) :
 CSpec Tryz.prog gl0 66 [.int .i64 raw, .rp [.int .i64 c0] 0] (.tuple [.int .i64 r.1, .bool r.2]) := by
 unfold XA at h
 replace h := ZS h
 refine So Tryz.func66 Y fun w0 A=>Tr<|Ra Y<|Ra Y<|Za<|Zj<|K2 0 1 Y<|Tr<|Rm Y<|Rq Y (Zb (ov Y) tS3 Y)<|R2 ZaX Y<|Za<|K3 0 1 7 Y<|If h Y (fun h=>?_) fun h=>?_
 ·
  refine K2 0 1 Y<|Td md0<|Dq 0 Y (Zb (ov Y) tS3 Y)<|D1 1 Zh Y<|D2 2 ZaI Y<|D1 3 Zh Y<|Dq 4 Y (Zb (ov Y) tS3 Y)<|D2 5 Qq Y<|D1 6 Zy Y<|D1 7 Zy Y<|Dd<|?_
  obtain rfl := rt h
  exact Zg (Zp Y (.two (rb Y)<|rb Y))
 ·
  refine Ze<|K1 0 Y<|Tr<|Rm Y<|Ra Y<|Ra Y<|Za<|?_
  obtain rfl := rt h
  exact Zg (Zp Y (.two (rb Y)<|rb Y))
theorem Zeo {c0 : Int} {r : layout_number} (h : Xn c0 = some r) :
 CSpec Tryz.prog gl0 64 [.rp [.int .i64 c0] 0] (.agg [.int .i64 r.low, .int .i64 r.high, .fn r.encode.f r.encode.c, .fn r.decode.f r.decode.c]) := by
 unfold Xn at h
 replace h := ZS h
 refine So Tryz.func64 Y fun w0 A=>Tr<|Rx Y (Zr (row := [_, _, _, _]) 0 Y Zgo Y tZ_77)<|Za<|Tr<|Rq Y (Zb (ov Y) tS3 Y)<|R2 ZaI Y<|Rq Y (Zb (ov Y) tS3 Y)<|R2 ZaI Y<|Rq Y (Qk<|.cons (ov Y) .nil)<|Rq Y (Qk<|.cons (ov Y) .nil)<|Rq Y (Qz (ys := [_, _, _, _]) ZlK ZlW Zgo (.cons (cvs (ov Y)<|Zt Y)<|.cons (cvs (ov Y)<|Zt Y)<|.cons (cvs (ov Y)<|Zt Y)<|.cons (cvs (ov Y)<|Zt Y) .nil) Y)<|Rx Y (Zo (ov Y) (ov Y) (Zm ZbP Y) Y Y Y (Nat.le_of_ble_eq_true Y) (Zd Y) Y)<|Za<|?_
 obtain rfl := rt h
 exact Zg (Zp Y (.one<|.agg Y Y Y Y ZbP Y Y<|.cons (Dat.view<|.b Y)<|.cons (Dat.view<|.b Y)<|.cons (Dat.view<|.fnC<|.cons (.b Y) .nil)<|.cons (Dat.view<|.fnC<|.cons (.b Y) .nil) .nil))
end Go.Proofs.YtdacciininlfmaaGreatDoor
