/- A text of the proof: a verified executor of the program form, or the contracts of the functions that the law reaches. -/
import Derived.Test.YtacmhbfmedpkhaaGreatDoorOkFc
set_option linter.all false
namespace Go.Proofs.YtacmhbfmedpkhaaGreatDoor
open Go Go.Vx
set_option maxRecDepth 10000
set_option maxHeartbeats 1000000
set_option linter.unusedVariables false
theorem ZcJ {p : api_Param} {number : Int} {r : (List api_Cell)} (h : JV p number = some r) :
 CSpec Tryz.prog gl0 40 [.agg [.str p.Name, .int .i64 p.Kind, .sl 121 (List.map Z9 p.Parts), .int .i64 p.First, .int .i64 p.Every, .int .i64 p.Times, .int .i64 p.Step, .sl 9 (List.map R9 p.Names)], .int .i64 number] (.sl 85 (List.map R85 r)) := by
 unfold JV at h
 replace h := ZE h
 refine So Tryz.func40 Y fun w0 A=>Tr<|Rq Y (Zv (cva<|ov Y) Y tZ_45 Y)<|Ra Y<|Za<|K2 1 2 Y<|Tr<|Ra Y<|Za<|I1 (fun out=>⟨[(5, .own 0 out.length)], [some ⟨85, List.map R85 out⟩]⟩) h (fun h=>?_) fun out h=>?_
 ·
  refine Tr<|Rq Y (Zc (ov Y) Zkx)<|Rq Y (Zb (ov Y) tS3 Y)<|Ra Y<|Za<|Zf<|?_
  obtain ⟨r1, hl1, ho1⟩ := Z1 h
  refine L2 (fun out2 f=>⟨[(1, .int .i64 number), (2, .rp [.str p.Name, .int .i64 p.Kind, .sl 121 (List.map Z9 p.Parts), .int .i64 p.First, .int .i64 p.Every, .int .i64 p.Times, .int .i64 p.Step, .sl 9 (List.map R9 p.Names)] 0), (5, .own 0 out2.length), (6, .int .i64 f)], [some ⟨85, List.map R85 out2⟩]⟩) hl1 (ES [none]) fun n1 out2 f h=>?_
  unfold XL at h
  refine Zj<|Tr<|Rm Y<|R2 Zw Y<|Za<|K5 1 2 5 6 17 Y<|If h Y (fun h=>?_) fun h=>?_
  ·
   refine Ze<|I1 (fun out3=>⟨[(1, .int .i64 number), (2, .rp [.str p.Name, .int .i64 p.Kind, .sl 121 (List.map Z9 p.Parts), .int .i64 p.First, .int .i64 p.Every, .int .i64 p.Times, .int .i64 p.Step, .sl 9 (List.map R9 p.Names)] 0), (5, .own 0 out3.length), (6, .int .i64 f)], [some ⟨85, List.map R85 out3⟩]⟩) h (fun h=>?_) fun out3 h=>?_
   ·
    refine Zf<|K4 1 2 5 6 Y<|Tr<|Ra Y<|Za<|I1 (fun Zax=>⟨[(1, .int .i64 number), (2, .rp [.str p.Name, .int .i64 p.Kind, .sl 121 (List.map Z9 p.Parts), .int .i64 p.First, .int .i64 p.Every, .int .i64 p.Times, .int .i64 p.Step, .sl 9 (List.map R9 p.Names)] 0), (5, .own 0 out2.length), (6, .int .i64 f), (7, .bool Zax)], [some ⟨85, List.map R85 out2⟩]⟩) h (fun h=>?_) fun Zax h=>?_
    ·
     refine Tr<|Rq Y (Zc (ov Y) Zce)<|Rq Y (Zb (ov Y) Zhr Y)<|Rl tZ_121 Zdh Y<|Rm Y<|Za<|Zf<|?_
     obtain ⟨r2, hl2, ho2⟩ := Z1 h
     refine L2 (fun inside2 i=>⟨[(1, .int .i64 number), (2, .rp [.str p.Name, .int .i64 p.Kind, .sl 121 (List.map Z9 p.Parts), .int .i64 p.First, .int .i64 p.Every, .int .i64 p.Times, .int .i64 p.Step, .sl 9 (List.map R9 p.Names)] 0), (5, .own 0 out2.length), (6, .int .i64 f), (7, .bool inside2), (23, .sl 121 (List.map Z9 p.Parts)), (24, .int .i64 (p.Parts.length : Int)), (25, .int .i64 i)], [some ⟨85, List.map R85 out2⟩]⟩) hl2 (ES [some 0]) fun n2 inside2 i h=>?_
     unfold Zap at h
     refine Tr<|R2 Zw Y<|Za<|Zj<|If h Y (fun h=>?_) fun h=>?_
     ·
      exact Ze<|Zj<|Zf<|K8 1 2 5 6 7 23 24 25 Y<|Tr<|bE h fun x h_x h=>Rq Y (Zx (ov Y) (ov Y) Zdh h_x)<|Rq Y (Zh (ov Y) ZbN Y Y)<|Rx Y (Zt (row := [_, _, _, _]) 1 Y Zhj Y tZ_121)<|Rx Y (Zo (ov Y) (ov Y) (Zk ZbN Y) Y Y Y (Nat.le_of_ble_eq_true Y) (Zd Y) Y)<|Za<|K9 1 2 5 6 7 9 23 24 25 Y<|Zs<|Rm Y<|Rm Y<|Rq Y (.guarded (inside2 == true) Y Y Y Y fun h => Zm<|ov Y)<|Rq Y (.guarded (inside2 == true) Y Y Y Y fun h => Zg (ov Y) Y Y Zf5)<|Rq Y (.guarded (inside2 == true) Y Y Y Y fun h => Zn (ow Y h) Y Y Y tS3 Y)<|Rq Y (.guarded (inside2 == true) Y Y Y Y fun h => Zjq (ow Y h) (ow Y h) Y)<|Rq Y (.guarded (inside2 == true) Y Y Y Y fun h => Zw (ow Y h)<|ov Y)<|Rq Y (Ql (ov Y) fun hp=>ow Y<|gT hp)<|Ra Y<|Za<|K8 1 2 5 6 7 23 24 25 Y<|Zs<|R2 ZB Y<|Rm Y<|Za<|⟨_, h, ES [some 0]⟩
     ·
      refine Zu<|?_
      replace h := lx h ▸ ho2
      exact ⟨_, h, ES [some 0]⟩
    ·
     refine Tr<|Ra Y<|Za<|Zf<|?_
     obtain ⟨r3, hl3, ho3⟩ := Z1 h
     refine L2 (fun out4 j=>⟨[(1, .int .i64 number), (2, .rp [.str p.Name, .int .i64 p.Kind, .sl 121 (List.map Z9 p.Parts), .int .i64 p.First, .int .i64 p.Every, .int .i64 p.Times, .int .i64 p.Step, .sl 9 (List.map R9 p.Names)] 0), (5, .own 0 out4.length), (6, .int .i64 f), (7, .bool Zax), (10, .int .i64 j)], [some ⟨85, List.map R85 out4⟩]⟩) hl3 (ES [some 0]) fun n3 out4 j h=>?_
     unfold Zau at h
     refine Zj<|Tr<|Rm Y<|Rq Y (Zc (ov Y) ZcE)<|Rq Y (Zb (ov Y) tS3 Y)<|R2 Zw Y<|Rm Y<|Rq Y (.guarded ((decide (j < p.Times)) == true) Y Y Y Y fun h => Zm<|ov Y)<|Rq Y (Ql (ov Y) fun hp=>ow Y<|gT hp)<|Za<|K7 1 2 5 6 7 10 44 Y<|If h Y (fun h=>?_) fun h=>?_
     ·
      refine Ze<|Zj<|Zf<|K6 1 2 5 6 7 10 Y<|Tr<|Rm Y<|Rm Y<|Rq Y (Zc9 (ov Y) Y Y Zbq)<|Rm Y<|Rq Y (ZA (ys := [_, _, _, _]) Zqw Zqo ZkN (.cons (cvs (ov Y)<|Zp Y)<|.cons (cvs (ov Y)<|Zp Y)<|.cons (cvs (ov Y)<|Zp Y) .nil) Y)<|Rx Y (Zt (row := [_, _, _, _]) 1 Y ZkN Y tZ_85)<|Rx Y (Zo (ov Y) (ov Y) (Zk Ze6 Y) Y Y Y (Nat.le_of_ble_eq_true Y) (Zd Y) Y)<|Za<|I1 (fun Places=>⟨[(1, .int .i64 number), (2, .rp [.str p.Name, .int .i64 p.Kind, .sl 121 (List.map Z9 p.Parts), .int .i64 p.First, .int .i64 p.Every, .int .i64 p.Times, .int .i64 p.Step, .sl 9 (List.map R9 p.Names)] 0), (5, .own 0 out4.length), (6, .int .i64 f), (7, .bool Zax), (10, .int .i64 j), (11, .ptr 1 1 0 0)], [some ⟨85, List.map R85 out4⟩, some ⟨85, [[.int .i64 number, .int .i64 (out4.length : Int), .int .i64 f, .own 2 Places.length]]⟩, some ⟨115, List.map R115 Places⟩]⟩) h (fun h=>?_) fun Places h=>?_
      ·
       refine K7 1 2 5 6 7 10 11 Y<|Tr<|Rq Y (Zc (ov Y) Zce)<|Rq Y (Zb (ov Y) Zhr Y)<|Rl tZ_121 Zdh Y<|Rm Y<|Za<|Zf<|?_
       obtain ⟨r4, hl4, ho4⟩ := Z1 h
       refine L2 (fun Places2 i2=>⟨[(1, .int .i64 number), (2, .rp [.str p.Name, .int .i64 p.Kind, .sl 121 (List.map Z9 p.Parts), .int .i64 p.First, .int .i64 p.Every, .int .i64 p.Times, .int .i64 p.Step, .sl 9 (List.map R9 p.Names)] 0), (5, .own 0 out4.length), (6, .int .i64 f), (7, .bool Zax), (10, .int .i64 j), (11, .ptr 1 1 0 0), (53, .sl 121 (List.map Z9 p.Parts)), (54, .int .i64 (p.Parts.length : Int)), (55, .int .i64 i2)], [some ⟨85, List.map R85 out4⟩, some ⟨85, [[.int .i64 number, .int .i64 (out4.length : Int), .int .i64 f, .own 2 Places2.length]]⟩, some ⟨115, List.map R115 Places2⟩]⟩) hl4 (ES [some 0, some 1, none]) fun n4 Places2 i2 h=>?_
       unfold ZcI at h
       refine Tr<|R2 Zw Y<|Za<|Zj<|If h Y (fun h=>?_) fun h=>?_
       ·
        exact Ze<|Zj<|Zf<|K10 1 2 5 6 7 10 11 53 54 55 Y<|Tr<|bE h fun x2 h_x2 h=>Rq Y (Zx (ov Y) (ov Y) Zdh h_x2)<|Rq Y (Zh (ov Y) ZbN Y Y)<|Rx Y (Zt (row := [_, _, _, _]) 3 Y Zhj Y tZ_121)<|Rx Y (Zo (ov Y) (ov Y) (Zk ZbN Y) Y Y Y (Nat.le_of_ble_eq_true Y) (Zd Y) Y)<|Za<|K11 1 2 5 6 7 10 11 13 53 54 55 Y<|Zs<|Rq Y (Zg (ov Y) Y Y Zcr)<|Rq Y (Zn (ov Y) Y Y Y Zhy Y)<|Rm Y<|Rq Y (Zg (ov Y) Y Y Zf5)<|Rq Y (Zn (ov Y) Y Y Y tS3 Y)<|R2 ZB Y<|Rq Y (Zg (ov Y) Y Y ZfQ)<|Rq Y (Zn (ov Y) Y Y Y tS3 Y)<|Rm Y<|Rq Y (Zc (ov Y) Zd7)<|Rq Y (Zb (ov Y) tS3 Y)<|R2 Zck Y<|R2 ZB Y<|Rq Y (Zg (ov Y) Y Y ZfR)<|Rq Y (Zn (ov Y) Y Y Y tS3 Y)<|Rq Y (Zg (ov Y) Y Y Zf2)<|Rq Y (Zn (ov Y) Y Y Y tS3 Y)<|Rq Y (ZA (ys := [_, _, _, _]) Zo9 Zoi Zi5 (.cons (cvs (ov Y)<|Zp Y)<|.cons (cvs (ov Y)<|Zp Y)<|.cons (cvs (ov Y)<|Zp Y)<|.cons (cvs (ov Y)<|Zp Y) .nil) Y)<|R_q (.sl 115<|List.map R115 ([(api_Place.mk (i64 (f + x2.Frame)) (i64 (x2.Word + (i64 (j * p.Step)))) x2.Low x2.Bits)] : List api_Place)) Y (JO ZgN (.cons (cva<|ov Y) Y (pwD Y) .nil) Y Y)<|bE h fun l h_l h=>Rx Y (Qf (ov Y) (Qp (ov Y) tZ_115) ZgN Y Y Y (fun _=>Zd Y) Y h_l)<|Rq Y (Zg (ov Y) Y Y Zcr)<|Rx Y (Zo (ov Y) (ov Y) (ZO Zhy) Y Y Y (Nat.le_of_ble_eq_true Y) (Zd Y) Y)<|Za<|K10 1 2 5 6 7 10 11 53 54 55 Y<|Zs<|R2 ZB Y<|Rm Y<|Za<|⟨_, h, ES [some 0, some 1, some 2]⟩
       ·
        refine Zu<|?_
        replace h := lx h ▸ ho4
        exact ⟨_, h, ES [some 0, some 1, some 2]⟩
      ·
       exact Zs<|Rm Y<|Rq Y (ZL (ov Y) Y Y Y Ze6 Y Y)<|ZgW (Ent.sel [some 0, some 1, none] (sd 1 Y Y<|sd 2 Y Y<|sr 5 Y (.own (r' := 0) _ Y)<|sd 6 Y Y<|sd 7 Y Y<|sd 10 Y Y<|sr 11 Y (.ptr (r' := 1) _ _ _ Y)<|sr 81 Y (.own (r' := 0) _ Y)<|sr 82 Y (XH<|rlc (.dat Y)<|rlc (.dat Y)<|rlc (.dat Y)<|rlc (ZpT Y Y Y D115) rln) sn) (.cons Y (roM D85)<|.cons Y (ro1 (by exact tZ_85.symm)<|rlc (.dat Y)<|rlc (.dat Y)<|rlc (.dat Y)<|rlc (ZpT Y Y Y D115) rln)<|.row 115 .nil) Y Y)<|R_q (.sl 85<|List.map R85 ([(api_Cell.mk number (out4.length : Int) f Places)] : List api_Cell)) Y (JO Zbq (.cons (cva<|ov Y) Y (pwD Y) .nil) Y Y)<|bE h fun l2 h_l2 h=>Rx Y (Qf (ov Y) (Qp (ov Y) tZ_85) Zbq Y Y Y (fun _=>Zd Y) Y h_l2)<|Ra Y<|Za<|K6 1 2 5 6 7 10 Y<|Zs<|Rm Y<|R2 ZB Y<|Ra Y<|Za<|⟨_, h, ES [some 0]⟩
     ·
      refine Zu<|?_
      replace h := lx h ▸ ho3
      exact ⟨_, h, ES [some 0]⟩
   ·
    exact Zs<|Rm Y<|Rq Y (Zc (ov Y) ZhI)<|Rq Y (Zb (ov Y) tS3 Y)<|R2 ZB Y<|Ra Y<|Za<|⟨_, h, ES [some 0]⟩
  ·
   refine Zu<|?_
   replace h := lx h ▸ ho1
   exact ⟨_, h, ES [some 0]⟩
 ·
  refine Tr<|Rm Y<|Ra Y<|Za<|?_
  obtain rfl := rt h
  exact Zi (Zq Y (.one<|.tmp Y<|View.ownM Y Y D85))
theorem Zgs {t : List ((Vector Int 3) × Bool)} {l : List api_Place} {r : Bool × (List ((Vector Int 3) × Bool))} (h : Zag t l = some r) :
 GSpec Tryz.prog gl0 73 [.mref 0 1, .sl 115 (List.map R115 l)] [some ⟨94, [[.mcon (List.map (Q3 Xp FV4) t)]]⟩] (.bool r.1) [some ⟨94, [[.mcon (List.map (Q3 Xp FV4) r.2)]]⟩] := by
 unfold Zag at h
 replace h := ZE h
 refine Jp (by kernel_rfl) Tryz.func73 Y Y<|?_
 intro w0 A W φ0
 refine Tr<|Ra Y<|Za<|K2 0 1 Y<|Tr<|Ra Y<|Za<|I2 (fun o ok=>⟨[(5, .bool ok)], [some ⟨94, [[.mcon (List.map (Q3 Xp FV4) o)]]⟩]⟩) h (fun h=>?_) fun o ok h=>?_
 ·
  refine Tr<|Rm Y<|Rl tZ_115 ZgN Y<|Rm Y<|Za<|Zf<|?_
  obtain ⟨r1, hl1, ho1⟩ := Z1 h
  refine L3 (fun o2 ok2 i=>⟨[(0, .mref 0 1), (5, .bool ok2), (10, .sl 115 (List.map R115 l)), (11, .int .i64 (l.length : Int)), (12, .int .i64 i)], [some ⟨94, [[.mcon (List.map (Q3 Xp FV4) o2)]]⟩]⟩) hl1 (ES [some 0] (hhp := .cons Y (QT (fk := Xp) (fv := FV4) (m := t) tZ_94 (fun _=>XH<|rld<|arD fun _ => Y) fun _=>.ren<|.dat Y) .nil)) fun n1 o2 ok2 i h=>?_
  unfold Q8 at h
  refine Tr<|R2 Zw Y<|Za<|Zj<|If h Y (fun h=>?_) fun h=>?_
  ·
   refine Ze<|I2 (fun o3 ok3=>⟨[(0, .mref 0 1), (5, .bool ok3), (10, .sl 115 (List.map R115 l)), (11, .int .i64 (l.length : Int)), (12, .int .i64 i)], [some ⟨94, [[.mcon (List.map (Q3 Xp FV4) o3)]]⟩]⟩) h (fun h=>?_) fun o3 ok3 h=>?_
   ·
    refine Zf<|K5 0 5 10 11 12 Y<|Tr<|bE h fun x h_x h=>Rq Y (Zx (ov Y) (ov Y) ZgN h_x)<|Rq Y (Zh (ov Y) ZfC Y Y)<|Rx Y (Zt (row := [_, _, _, _]) 1 Y Zi5 Y tZ_115)<|Rx Y (Zo (ov Y) (ov Y) (Zk ZfC Y) Y Y Y (Nat.le_of_ble_eq_true Y) (Zd Y) Y)<|Za<|K6 0 5 7 10 11 12 Y<|Tr<|Rq Y (Zg (ov Y) Y Y Zg7)<|Rq Y (Zn (ov Y) Y Y Y tS3 Y)<|Ra Y<|Za<|Zf<|?_
    obtain ⟨r2, hl2, ho2⟩ := Z1 h
    refine L3 (fun o4 ok4 b=>⟨[(0, .mref 0 1), (5, .bool ok4), (7, .ptr 1 1 0 0), (8, .int .i64 b), (10, .sl 115 (List.map R115 l)), (11, .int .i64 (l.length : Int)), (12, .int .i64 i)], [some ⟨94, [[.mcon (List.map (Q3 Xp FV4) o4)]]⟩, some ⟨115, [[.int .i64 x.Frame, .int .i64 x.Word, .int .i64 x.Low, .int .i64 x.Bits]]⟩]⟩) hl2 (ES [some 0, some 1] (hhp := .cons Y (QT (fk := Xp) (fv := FV4) (m := o2) tZ_94 (fun _=>XH<|rld<|arD fun _ => Y) fun _=>.ren<|.dat Y)<|.cons Y (ro1 (by exact tZ_115.symm)<|rld Y) .nil)) fun n2 o4 ok4 b h=>?_
    unfold Q9 at h
    refine Zj<|Tr<|Rm Y<|Rq Y (Zg (ov Y) Y Y Zg7)<|Rq Y (Zn (ov Y) Y Y Y tS3 Y)<|Rq Y (Zg (ov Y) Y Y Zf3)<|Rq Y (Zn (ov Y) Y Y Y tS3 Y)<|R2 ZB Y<|R2 Zw Y<|Za<|K8 0 5 7 8 10 11 12 24 Y<|If h Y (fun h=>?_) fun h=>?_
    ·
     exact Ze<|Zj<|Zf<|K7 0 5 7 8 10 11 12 Y<|Tr<|Rq Y (Zg (ov Y) Y Y Zhm)<|Rq Y (Zn (ov Y) Y Y Y tS3 Y)<|Rq Y (Zg (ov Y) Y Y Zf0)<|Rq Y (Zn (ov Y) Y Y Y tS3 Y)<|Rm Y<|R_q (.agg<|List.map C3 (#v[x.Frame, x.Word, b] : Vector Int 3).toList) Y (Zjm (ys := [_, _, _]) ZrZ Zqp (.cons (cvs (ov Y)<|Zp Y)<|.cons (cvs (ov Y)<|Zp Y)<|.cons (cvs (ov Y)<|Zp Y) .nil) Y)<|Rx Y (Zt (row := (List.map C3 (Vector.replicate 3 0).toList)) 2 Y Zqp Y tZ_145)<|Rx Y (Zo (ov Y) (ov Y) (Zk Zpk arL) Y Y Y (ZkO (Z2 arL) arL) (Zd<|arC fun _ => Y)<|Zkh<|Eq.trans arL<|Eq.symm arL)<|Za<|K8 0 5 7 8 9 10 11 12 Y<|Tr<|Rm Y<|Rm Y<|Rq Y (.guarded (ok4 == true) Y Y Y Y fun h => Zm<|ov Y)<|Rq Y (.guarded (ok4 == true) Y Y Y Y fun h => ZL (ov Y) Y Y Y Zpk (XA<|Z2 arL) arL (hns := (nsM fun _ => Y)))<|bE h fun o5 h_o5 h=>Rq Y (.guarded (ok4 == true) Y Y Y Y fun h => ZdR (m := o4) (fk := Xp) (fv := FV4) (k := (#v[x.Frame, x.Word, b] : Vector Int 3)) (z0 := false) (ow Y h) (ow Y h) Znc Zop Y (fun _=>.aggB<|arD fun _ => Y) (QZ ZsE Y) (fun _ _=>Y)<|gdT h_o5 h)<|Rq Y (.guarded (ok4 == true) Y Y Y Y fun h => Z0<|ow Y h)<|Rq Y (Ql (ov Y) fun hp=>ow Y<|gT hp)<|Ra Y<|Za<|K8 0 5 7 8 9 10 11 12 Y<|Zs<|Rm Y<|Rq Y (ZL (ov Y) Y Y Y Zpk (XA<|Z2 arL) arL (hns := (nsM fun _ => Y)))<|Rx Y (ZgU (m := o4) (fk := Xp) (fv := FV4) (k := (#v[x.Frame, x.Word, b] : Vector Int 3)) (v := true) (ov Y) (ov Y) (ov Y) Znc Zop Y fun _=>.aggB<|arD fun _ => Y)<|Za<|K7 0 5 7 8 10 11 12 Y<|Zs<|Rm Y<|R2 ZB Y<|Ra Y<|Za<|⟨_, h, ES [some 0, some 1] (hhp := .cons Y (QT (fk := Xp) (fv := FV4) (m := (Zei kqV o4 (#v[x.Frame, x.Word, b] : Vector Int 3) true)) tZ_94 (fun _=>XH<|rld<|arD fun _ => Y) fun _=>.ren<|.dat Y)<|.cons Y (ro1 (by exact tZ_115.symm)<|rld Y) .nil)⟩
    ·
     refine Zu<|?_
     replace h := lx h ▸ ho2
     exact ⟨_, h, ES [some 0] (hhp := .cons Y (QT (fk := Xp) (fv := FV4) (m := o4) tZ_94 (fun _=>XH<|rld<|arD fun _ => Y) fun _=>.ren<|.dat Y) .nil)⟩
   ·
    exact Zs<|R2 ZB Y<|Rm Y<|Za<|⟨_, h, ES [some 0] (hhp := .cons Y (QT (fk := Xp) (fv := FV4) (m := o3) tZ_94 (fun _=>XH<|rld<|arD fun _ => Y) fun _=>.ren<|.dat Y) .nil)⟩
  ·
   refine Zu<|?_
   replace h := lx h ▸ ho1
   exact ⟨_, h, ES [some 0] (hhp := .cons Y (QT (fk := Xp) (fv := FV4) (m := o2) tZ_94 (fun _=>XH<|rld<|arD fun _ => Y) fun _=>.ren<|.dat Y) .nil)⟩
 ·
  refine Tr<|Rm Y<|Ra Y<|Za<|?_
  obtain rfl := rt h
  exact Zi<|Zig [some 0] Y (.cons (.tmp Y) .nil) (.cons Y (QT (fk := Xp) (fv := FV4) (m := o) tZ_94 (fun _=>XH<|rld<|arD fun _ => Y) fun _=>.ren<|.dat Y) .nil) Y Y<|.dat Y
theorem Zcm {t : List ((Vector Int 3) × Bool)} {l : List api_Cell} {r : Bool × (List ((Vector Int 3) × Bool))} (h : Xa t l = some r) :
 GSpec Tryz.prog gl0 41 [.mref 0 1, .sl 85 (List.map R85 l)] [some ⟨94, [[.mcon (List.map (Q3 Xp FV4) t)]]⟩] (.bool r.1) [some ⟨94, [[.mcon (List.map (Q3 Xp FV4) r.2)]]⟩] := by
 unfold Xa at h
 replace h := ZE h
 refine Jp (by kernel_rfl) Tryz.func41 Y Y<|?_
 intro w0 A W φ0
 refine Tr<|Ra Y<|Za<|K2 0 1 Y<|Tr<|Ra Y<|Za<|I2 (fun o ok=>⟨[(5, .bool ok)], [some ⟨94, [[.mcon (List.map (Q3 Xp FV4) o)]]⟩]⟩) h (fun h=>?_) fun o ok h=>?_
 ·
  refine Tr<|Rm Y<|Rl tZ_85 Zbq Y<|Rm Y<|Za<|Zf<|?_
  obtain ⟨r1, hl1, ho1⟩ := Z1 h
  refine L3 (fun o2 ok2 i=>⟨[(0, .mref 0 1), (5, .bool ok2), (8, .sl 85 (List.map R85 l)), (9, .int .i64 (l.length : Int)), (10, .int .i64 i)], [some ⟨94, [[.mcon (List.map (Q3 Xp FV4) o2)]]⟩]⟩) hl1 (ES [some 0] (hhp := .cons Y (QT (fk := Xp) (fv := FV4) (m := t) tZ_94 (fun _=>XH<|rld<|arD fun _ => Y) fun _=>.ren<|.dat Y) .nil)) fun n1 o2 ok2 i h=>?_
  unfold QI at h
  refine Tr<|R2 Zw Y<|Za<|Zj<|If h Y (fun h=>?_) fun h=>?_
  ·
   refine Ze<|Zj<|Zf<|K5 0 5 8 9 10 Y<|Tr<|bE h fun x h_x h=>Rq Y (Zx (ov Y) (ov Y) Zbq h_x)<|Rq Y (Zh (ov Y) Ze6 Y Y)<|Rx Y (Zt (row := [_, _, _, _]) 1 Y ZkN Y tZ_85)<|Rx Y (Zo (ov Y) (ov Y) (Zk Ze6 Y) Y Y Y (Nat.le_of_ble_eq_true Y) (Zd Y) Y)<|Za<|K6 0 5 7 8 9 10 Y<|Tr<|Rm Y<|Rq Y (Zg (ov Y) Y Y Zcr)<|Rq Y (Zn (ov Y) Y Y Y Zhy Y)<|bE h fun y h_y h=>Rx Y (Qq [0] (Zgs h_y) (.cons (ov Y) (.mref _ Y)<|.cons (ov Y) (.dat Y) .nil) (.cons Y (QT (fk := Xp) (fv := FV4) (m := o2) tZ_94 (fun _=>XH<|rld<|arD fun _ => Y) fun _=>.ren<|.dat Y) .nil) Y (.lent 0 (.inl Y) Y (QT (fk := Xp) (fv := FV4) (m := y.2) tZ_94 (fun _=>XH<|rld<|arD fun _ => Y) fun _=>.ren<|.dat Y)<|.keep Y Y .nil) Y Y<|.dat Y)<|R1 Z0 Y<|Za<|K6 0 5 8 9 10 18 Y<|If h Y (fun h=>?_) fun h=>?_
   ·
    exact K5 0 5 8 9 10 Y<|Zs<|Ra Y<|Za<|Zs<|R2 ZB Y<|Rm Y<|Za<|⟨_, h, ES [some 0] (hhp := .cons Y (QT (fk := Xp) (fv := FV4) (m := y.2) tZ_94 (fun _=>XH<|rld<|arD fun _ => Y) fun _=>.ren<|.dat Y) .nil)⟩
   ·
    exact Ze<|K5 0 5 8 9 10 Y<|Zs<|R2 ZB Y<|Rm Y<|Za<|⟨_, h, ES [some 0] (hhp := .cons Y (QT (fk := Xp) (fv := FV4) (m := y.2) tZ_94 (fun _=>XH<|rld<|arD fun _ => Y) fun _=>.ren<|.dat Y) .nil)⟩
  ·
   refine Zu<|?_
   replace h := lx h ▸ ho1
   exact ⟨_, h, ES [some 0] (hhp := .cons Y (QT (fk := Xp) (fv := FV4) (m := o2) tZ_94 (fun _=>XH<|rld<|arD fun _ => Y) fun _=>.ren<|.dat Y) .nil)⟩
 ·
  refine Tr<|Rm Y<|Ra Y<|Za<|?_
  obtain rfl := rt h
  exact Zi<|Zig [some 0] Y (.cons (.tmp Y) .nil) (.cons Y (QT (fk := Xp) (fv := FV4) (m := o) tZ_94 (fun _=>XH<|rld<|arD fun _ => Y) fun _=>.ren<|.dat Y) .nil) Y Y<|.dat Y
theorem ZdC {p : api_Param} {r : Int} (h : Jf p = some r) :
 CSpec Tryz.prog gl0 39 [.agg [.str p.Name, .int .i64 p.Kind, .sl 121 (List.map Z9 p.Parts), .int .i64 p.First, .int .i64 p.Every, .int .i64 p.Times, .int .i64 p.Step, .sl 9 (List.map R9 p.Names)]] (.int .i64 r) := by
 unfold Jf at h
 replace h := ZE h
 refine So Tryz.func39 Y fun w0 A=>Tr<|Rq Y (Zv (cva<|ov Y) Y tZ_45 Y)<|Ra Y<|Za<|Zj<|K1 1 Y<|Tr<|Rq Y (Zc (ov Y) Zfd)<|Rq Y (Zb (ov Y) tS9 Y)<|bE h fun y h_y h=>Rq Y (Zl (ZfD h_y)<|.cons (ov Y) (.b Y) .nil)<|R1 Z0 Y<|Za<|K2 1 10 Y<|If h Y (fun h=>?_) fun h=>?_
 ·
  refine K0<|Tr<|Ra Y<|Za<|?_
  obtain rfl := rt h
  exact Zi (Zq Y (.one<|rb Y))
 ·
  refine Ze<|Zj<|K1 1 Y<|Tr<|Rq Y (Zc (ov Y) ZbZ)<|Rq Y (Zb (ov Y) tS3 Y)<|bE h fun y2 h_y2 h=>Rq Y (Zl (QL h_y2)<|.cons (ov Y) (.b Y)<|.cons (ov Y) (.b Y)<|.cons (ov Y) (.b Y) .nil)<|Za<|K2 1 13 Y<|If h Y (fun h=>?_) fun h=>?_
  ·
   refine K0<|Tr<|Ra Y<|Za<|?_
   obtain rfl := rt h
   exact Zi (Zq Y (.one<|rb Y))
  ·
   refine Ze<|Zj<|K1 1 Y<|Tr<|Rq Y (Zh (ov Y) Q7 Y Y)<|bE h fun y3 h_y3 h=>Rq Y (Zl (ZgE h_y3)<|.cons (ov Y) (.aggB Y) .nil)<|Ra Y<|Za<|K2 1 3 Y<|Tr<|Rm Y<|R2 QC Y<|Za<|K3 1 3 17 Y<|If h Y (fun h=>?_) fun h=>?_
   ·
    refine K1 3 Y<|Tr<|Rm Y<|Ra Y<|Za<|?_
    obtain rfl := rt h
    exact Zi (Zq Y (.one<|rb Y))
   ·
    refine Ze<|Zj<|K1 1 Y<|Tr<|Rq Y (Zh (ov Y) Q7 Y Y)<|bE h fun y4 h_y4 h=>Rq Y (Zl (ZgI h_y4)<|.cons (ov Y) (.aggB Y) .nil)<|Ra Y<|Za<|K2 1 4 Y<|Tr<|Rm Y<|R2 QC Y<|Za<|K3 1 4 22 Y<|If h Y (fun h=>?_) fun h=>?_
    ·
     refine K1 4 Y<|Tr<|Rm Y<|Ra Y<|Za<|?_
     obtain rfl := rt h
     exact Zi (Zq Y (.one<|rb Y))
    ·
     refine Ze<|Zj<|K1 1 Y<|Tr<|Rq Y (Zh (ov Y) Q7 Y Y)<|bE h fun y5 h_y5 h=>Rq Y (Zl (Zhi h_y5)<|.cons (ov Y) (.aggB Y) .nil)<|Ra Y<|Za<|K2 1 5 Y<|Tr<|Rm Y<|R2 QC Y<|Za<|K3 1 5 27 Y<|If h Y (fun h=>?_) fun h=>?_
     ·
      refine K1 5 Y<|Tr<|Rm Y<|Ra Y<|Za<|?_
      obtain rfl := rt h
      exact Zi (Zq Y (.one<|rb Y))
     ·
      refine Ze<|K1 1 Y<|Tr<|Rq Y (Zh (ov Y) Q7 Y Y)<|bE h fun y6 h_y6 h=>Rq Y (Zl (ZcJ h_y6)<|.cons (ov Y) (.aggB Y)<|.cons (ov Y) (.b Y) .nil)<|Ra Y<|Za<|Zj<|K1 6 Y<|Tr<|Rx Y (ZcC 0 Y Znc)<|Rm Y<|bE h fun y7 h_y7 h=>Rx Y (Qq [0] (Zcm h_y7) (.cons (ov Y) (.mref _ Y)<|.cons (ov Y) (.dat Y) .nil) (.cons Y (QT (fk := Xp) (fv := FV4) (m := ([] : List ((Vector Int 3) × Bool))) tZ_94 (fun _=>XH<|rld<|arD fun _ => Y) fun _=>.ren<|.dat Y) .nil) Y (.lent 0 (.inl Y) Y (QT (fk := Xp) (fv := FV4) (m := y7.2) tZ_94 (fun _=>XH<|rld<|arD fun _ => Y) fun _=>.ren<|.dat Y) .nil) Y Y<|.dat Y)<|R1 Z0 Y<|Za<|K2 6 34 Y<|If h Y (fun h=>?_) fun h=>?_
      ·
       refine K0<|Tr<|Ra Y<|Za<|?_
       obtain rfl := rt h
       exact Zi (Zq Y (.one<|rb Y))
      ·
       refine Ze<|Zj<|K1 6 Y<|Tr<|Rm Y<|Rl tZ_85 Zbq Y<|R2 Z4 Y<|Za<|K1 37 Y<|If h Y (fun h=>?_) fun h=>?_
       ·
        refine K0<|Tr<|Ra Y<|Za<|?_
        obtain rfl := rt h
        exact Zi (Zq Y (.one<|rb Y))
       ·
        refine Ze<|K0<|Tr<|Ra Y<|Za<|?_
        obtain rfl := rt h
        exact Zi (Zq Y (.one<|rb Y))
theorem Zgi {m : api_Map} {r : Int × Int} (h : Zco m = some r) :
 CSpec Tryz.prog gl0 19 [.agg [.int .i64 m.Version, .sl 45 (List.map R45 m.Params)]] (.tuple [.int .i64 r.1, .int .i64 r.2]) := by
 unfold Zco at h
 replace h := ZE h
 refine So Tryz.func19 Y fun w0 A=>Tr<|Rq Y (Zv (cva<|ov Y) Y tZ_24 Y)<|Ra Y<|Ra Y<|Za<|Zj<|K1 1 Y<|Tr<|Rq Y (Zc (ov Y) ZkK)<|Rq Y (Zb (ov Y) tS3 Y)<|bE h fun y h_y h=>Rq Y (Zl (QL h_y)<|.cons (ov Y) (.b Y)<|.cons (ov Y) (.b Y)<|.cons (ov Y) (.b Y) .nil)<|Za<|K2 1 17 Y<|If h Y (fun h=>?_) fun h=>?_
 ·
  refine K0<|Tr<|Ra Y<|Ra Y<|Za<|?_
  obtain rfl := rt h
  exact Zi (Zq Y (.two (rb Y)<|rb Y))
 ·
  refine Ze<|Zj<|K1 1 Y<|Tr<|Rq Y (Zc (ov Y) ZaA)<|Rq Y (Zb (ov Y) Ze4 Y)<|Rl tZ_45 ZbX Y<|R2 Qj Y<|Za<|K2 1 21 Y<|If h Y (fun h=>?_) fun h=>?_
  ·
   refine K0<|Tr<|Ra Y<|Ra Y<|Za<|?_
   obtain rfl := rt h
   exact Zi (Zq Y (.two (rb Y)<|rb Y))
  ·
   refine Ze<|K1 1 Y<|Tr<|Ra Y<|Za<|J0 (fun j => (.inr j)) ⟨[(1, .rp [.int .i64 m.Version, .sl 45 (List.map R45 m.Params)] 0), (4, .int .i64 0)], []⟩ h (fun h=>?_) fun h=>?_
   ·
    refine Tr<|Rq Y (Zc (ov Y) ZaA)<|Rq Y (Zb (ov Y) Ze4 Y)<|Rl tZ_45 ZbX Y<|Rm Y<|Za<|Zf<|?_
    obtain ⟨r1, hl1, ho1⟩ := Z1 h
    refine L1 (fun i=>⟨[(1, .rp [.int .i64 m.Version, .sl 45 (List.map R45 m.Params)] 0), (4, .int .i64 0), (23, .sl 45 (List.map R45 m.Params)), (24, .int .i64 (m.Params.length : Int)), (25, .int .i64 i)], []⟩) hl1 (ES []) fun n1 i h=>?_
    unfold Zbj at h
    refine Tr<|R2 Zw Y<|Za<|Zj<|If h Y (fun h=>?_) fun h=>?_
    ·
     refine Ze<|J0 (fun j => (.inr j)) ⟨[(1, .rp [.int .i64 m.Version, .sl 45 (List.map R45 m.Params)] 0), (4, .int .i64 0), (23, .sl 45 (List.map R45 m.Params)), (24, .int .i64 (m.Params.length : Int)), (25, .int .i64 i)], []⟩ h (fun h=>?_) fun h=>?_
     ·
      refine Zf<|K5 1 4 23 24 25 Y<|Tr<|Rm Y<|bE h fun x h_x h=>Rq Y (Zx (ov Y) (ov Y) ZbX h_x)<|Rq Y (Zh (ov Y) Q7 Y Y)<|Rx Y (Zt (row := [_, _, _, _, _, _, _, _]) 0 Y Zju Y tZ_45)<|Ra Y<|Rx Y (Zo (ov Y) (ov Y) (Zk Q7 Y) Y Y Y (Nat.le_of_ble_eq_true Y) (Zd Y) Y)<|Za<|Zj<|K7 1 4 5 6 23 24 25 Y<|Tr<|Rq Y (ZL (ov Y) Y Y Y Q7 Y Y)<|bE h fun y2 h_y2 h=>Rq Y (Zl (ZdC h_y2)<|.cons (ov Y) (.aggB Y) .nil)<|Ra Y<|Za<|K8 1 4 5 6 7 23 24 25 Y<|Tr<|Rm Y<|R2 QC Y<|Za<|K9 1 4 5 6 7 23 24 25 33 Y<|If h Y (fun h=>?_) fun h=>?_
      ·
       refine K2 5 7 Y<|Tr<|Rm Y<|Rm Y<|Ra Y<|Ra Y<|Za<|?_
       replace h := lx h ▸ ho1
       obtain rfl := rt h
       exact Zi (Zq Y (.two (rb Y)<|rb Y))
      ·
       refine Ze<|K7 1 4 5 6 23 24 25 Y<|Tr<|Rq Y (Zc (ov Y) ZaA)<|Rq Y (Zb (ov Y) Ze4 Y)<|Rm Y<|bE h fun l h_l h=>Rq Y (ZbC (ov Y) ZbX on (oi<|ov Y) h_l)<|Rl tZ_45 ZbX Y<|Rm Y<|Za<|Zf<|?_
       obtain ⟨r2, hl2, ho2⟩ := Z1 h
       refine L1 (fun i2=>⟨[(1, .rp [.int .i64 m.Version, .sl 45 (List.map R45 m.Params)] 0), (4, .int .i64 0), (5, .int .i64 i), (6, .ptr 0 1 0 0), (23, .sl 45 (List.map R45 m.Params)), (24, .int .i64 (m.Params.length : Int)), (25, .int .i64 i), (39, .sl 45 (List.map R45 l)), (40, .int .i64 (l.length : Int)), (41, .int .i64 i2)], [some ⟨45, [[.str x.Name, .int .i64 x.Kind, .sl 121 (List.map Z9 x.Parts), .int .i64 x.First, .int .i64 x.Every, .int .i64 x.Times, .int .i64 x.Step, .sl 9 (List.map R9 x.Names)]]⟩]⟩) hl2 (ES [some 0]) fun n2 i2 h=>?_
       unfold Zbl at h
       refine Tr<|R2 Zw Y<|Za<|Zj<|If h Y (fun h=>?_) fun h=>?_
       ·
        refine Ze<|Zj<|Zf<|K10 1 4 5 6 23 24 25 39 40 41 Y<|Tr<|bE h fun x2 h_x2 h=>Rq Y (Zx (ov Y) (ov Y) ZbX h_x2)<|Rq Y (Zh (ov Y) Q7 Y Y)<|Rx Y (Zt (row := [_, _, _, _, _, _, _, _]) 1 Y Zju Y tZ_45)<|Rx Y (Zo (ov Y) (ov Y) (Zk Q7 Y) Y Y Y (Nat.le_of_ble_eq_true Y) (Zd Y) Y)<|Za<|K11 1 4 5 6 9 23 24 25 39 40 41 Y<|Tr<|Rq Y (Zg (ov Y) Y Y Zfd)<|Rq Y (Zn (ov Y) Y Y Y tS9 Y)<|Rq Y (Zg (ov Y) Y Y Zfd)<|Rq Y (Zn (ov Y) Y Y Y tS9 Y)<|R2 ZdG Y<|Za<|K11 1 4 5 6 23 24 25 39 40 41 49 Y<|If h Y (fun h=>?_) fun h=>?_
        ·
         refine K1 5 Y<|Tr<|Rm Y<|Ra Y<|Ra Y<|Za<|?_
         replace h := lx h ▸ ho2
         replace h := lx h ▸ ho1
         obtain rfl := rt h
         exact Zi (Zq Y (.two (rb Y)<|rb Y))
        ·
         exact Ze<|K10 1 4 5 6 23 24 25 39 40 41 Y<|Zs<|R2 ZB Y<|Rm Y<|Za<|⟨_, h, ES [some 0]⟩
       ·
        refine Zu<|?_
        replace h := lx h ▸ ho2
        exact ⟨_, h, ES []⟩
     ·
      replace h := elr h
      replace h := t0i h
      exact Zs<|R2 ZB Y<|Rm Y<|Za<|⟨_, h, ES []⟩
    ·
     refine Zu<|?_
     replace h := lx h ▸ ho1
     exact ⟨_, h, ES []⟩
   ·
    replace h := elr h
    replace h := t0i h
    refine J0 (fun j => (.inr j)) ⟨[(1, .rp [.int .i64 m.Version, .sl 45 (List.map R45 m.Params)] 0)], []⟩ h (fun h=>?_) fun h=>?_
    ·
     refine Tr<|Rq Y (Zc (ov Y) ZaA)<|Rq Y (Zb (ov Y) Ze4 Y)<|Rl tZ_45 ZbX Y<|Rm Y<|Za<|Zf<|?_
     obtain ⟨r3, hl3, ho3⟩ := Z1 h
     refine L2 (fun n i3=>⟨[(1, .rp [.int .i64 m.Version, .sl 45 (List.map R45 m.Params)] 0), (4, .int .i64 n), (54, .sl 45 (List.map R45 m.Params)), (55, .int .i64 (m.Params.length : Int)), (56, .int .i64 i3)], []⟩) hl3 (ES []) fun n3 n i3 h=>?_
     unfold Zas at h
     refine Tr<|R2 Zw Y<|Za<|Zj<|If h Y (fun h=>?_) fun h=>?_
     ·
      refine Ze<|Zj<|Zf<|K5 1 4 54 55 56 Y<|Tr<|Rm Y<|bE h fun x3 h_x3 h=>Rq Y (Zx (ov Y) (ov Y) ZbX h_x3)<|Rq Y (Zh (ov Y) Q7 Y Y)<|Rx Y (Zt (row := [_, _, _, _, _, _, _, _]) 0 Y Zju Y tZ_45)<|Ra Y<|Rx Y (Zo (ov Y) (ov Y) (Zk Q7 Y) Y Y Y (Nat.le_of_ble_eq_true Y) (Zd Y) Y)<|Za<|K7 1 4 10 11 54 55 56 Y<|Tr<|Rm Y<|Rq Y (ZL (ov Y) Y Y Y Q7 Y Y)<|Rm Y<|bE h fun y3 h_y3 h=>Rq Y (Zl (ZcJ h_y3)<|.cons (ov Y) (.aggB Y)<|.cons (ov Y) (.b Y) .nil)<|Rl tZ_85 Zbq Y<|R2 ZB Y<|Ra Y<|Za<|K6 1 4 10 54 55 56 Y<|Tr<|Rm Y<|R2 Qj Y<|Za<|K7 1 4 10 54 55 56 68 Y<|If h Y (fun h=>?_) fun h=>?_
      ·
       refine K1 10 Y<|Tr<|Rm Y<|Ra Y<|Ra Y<|Za<|?_
       replace h := lx h ▸ ho3
       obtain rfl := rt h
       exact Zi (Zq Y (.two (rb Y)<|rb Y))
      ·
       exact Ze<|K5 1 4 54 55 56 Y<|Zs<|R2 ZB Y<|Rm Y<|Za<|⟨_, h, ES []⟩
     ·
      refine Zu<|?_
      replace h := lx h ▸ ho3
      exact ⟨_, h, ES []⟩
    ·
     replace h := elr h
     replace h := t0i h
     refine Tr<|Rx Y (ZcC 0 Y Znc)<|Ra Y<|Za<|J0 (fun j => (.inr j)) ⟨[], []⟩ h (fun h=>?_) fun h=>?_
     ·
      refine K2 1 12 Y<|Tr<|Rq Y (Zc (ov Y) ZaA)<|Rq Y (Zb (ov Y) Ze4 Y)<|Rl tZ_45 ZbX Y<|Rm Y<|Za<|Zf<|?_
      obtain ⟨r4, hl4, ho4⟩ := Z1 h
      refine L2 (fun t i4=>⟨[(12, .mref 0 1), (73, .sl 45 (List.map R45 m.Params)), (74, .int .i64 (m.Params.length : Int)), (75, .int .i64 i4)], [some ⟨94, [[.mcon (List.map (Q3 Xp FV4) t)]]⟩]⟩) hl4 (ES [some 0] (hhp := .cons Y (QT (fk := Xp) (fv := FV4) (m := ([] : List ((Vector Int 3) × Bool))) tZ_94 (fun _=>XH<|rld<|arD fun _ => Y) fun _=>.ren<|.dat Y) .nil)) fun n4 t i4 h=>?_
      unfold Zan at h
      refine Tr<|R2 Zw Y<|Za<|Zj<|If h Y (fun h=>?_) fun h=>?_
      ·
       refine Ze<|Zj<|Zf<|K4 12 73 74 75 Y<|Tr<|Rm Y<|bE h fun x4 h_x4 h=>Rq Y (Zx (ov Y) (ov Y) ZbX h_x4)<|Rq Y (Zh (ov Y) Q7 Y Y)<|Rx Y (Zt (row := [_, _, _, _, _, _, _, _]) 1 Y Zju Y tZ_45)<|Ra Y<|Rx Y (Zo (ov Y) (ov Y) (Zk Q7 Y) Y Y Y (Nat.le_of_ble_eq_true Y) (Zd Y) Y)<|Za<|K6 12 13 14 73 74 75 Y<|Tr<|Rm Y<|Rq Y (ZL (ov Y) Y Y Y Q7 Y Y)<|Rm Y<|bE h fun y4 h_y4 h=>Rq Y (Zl (ZcJ h_y4)<|.cons (ov Y) (.aggB Y)<|.cons (ov Y) (.b Y) .nil)<|bE h fun y5 h_y5 h=>Rx Y (Qq [0] (Zcm h_y5) (.cons (ov Y) (.mref _ Y)<|.cons (ov Y) (.dat Y) .nil) (.cons Y (QT (fk := Xp) (fv := FV4) (m := t) tZ_94 (fun _=>XH<|rld<|arD fun _ => Y) fun _=>.ren<|.dat Y) .nil) Y (.lent 0 (.inl Y) Y (QT (fk := Xp) (fv := FV4) (m := y5.2) tZ_94 (fun _=>XH<|rld<|arD fun _ => Y) fun _=>.ren<|.dat Y)<|.keep Y Y .nil) Y Y<|.dat Y)<|R1 Z0 Y<|Za<|K6 12 13 73 74 75 85 Y<|If h Y (fun h=>?_) fun h=>?_
       ·
        refine K1 13 Y<|Tr<|Rm Y<|Ra Y<|Ra Y<|Za<|?_
        replace h := lx h ▸ ho4
        obtain rfl := rt h
        exact Zi (Zq Y (.two (rb Y)<|rb Y))
       ·
        exact Ze<|K4 12 73 74 75 Y<|Zs<|R2 ZB Y<|Rm Y<|Za<|⟨_, h, ES [some 0] (hhp := .cons Y (QT (fk := Xp) (fv := FV4) (m := y5.2) tZ_94 (fun _=>XH<|rld<|arD fun _ => Y) fun _=>.ren<|.dat Y) .nil)⟩
      ·
       refine Zu<|?_
       replace h := lx h ▸ ho4
       exact ⟨_, h, ES []⟩
     ·
      replace h := elr h
      replace h := t0i h
      refine Tr<|Ra Y<|Ra Y<|Za<|?_
      obtain rfl := rt h
      exact Zi (Zq Y (.two (rb Y)<|rb Y))
theorem Zjw {m : api_Map} {name : Str} {r : Int} (h : Zdv m name = some r) :
 CSpec Tryz.prog gl0 20 [.agg [.int .i64 m.Version, .sl 45 (List.map R45 m.Params)], .str name] (.int .i64 r) := by
 unfold Zdv at h
 replace h := ZE h
 refine So Tryz.func20 Y fun w0 A=>Tr<|Rq Y (Zv (cva<|ov Y) Y tZ_24 Y)<|Ra Y<|Za<|J0 (fun j => (.inr j)) ⟨[], []⟩ h (fun h=>?_) fun h=>?_
 ·
  refine K2 1 2 Y<|Tr<|Ra Y<|Za<|Zf<|?_
  obtain ⟨r1, hl1, ho1⟩ := Z1 h
  refine L1 (fun i=>⟨[(1, .str name), (2, .rp [.int .i64 m.Version, .sl 45 (List.map R45 m.Params)] 0), (5, .int .i64 i)], []⟩) hl1 (ES []) fun n1 i h=>?_
  unfold Zd3 at h
  refine Zj<|Tr<|Rm Y<|Rq Y (Zc (ov Y) ZaA)<|Rq Y (Zb (ov Y) Ze4 Y)<|Rl tZ_45 ZbX Y<|R2 Zw Y<|Za<|K4 1 2 5 10 Y<|If h Y (fun h=>?_) fun h=>?_
  ·
   refine Ze<|Zj<|Zf<|K3 1 2 5 Y<|Tr<|Rq Y (Zc (ov Y) ZaA)<|Rq Y (Zb (ov Y) Ze4 Y)<|Rm Y<|bE h fun x h_x h=>Rq Y (Zx (ov Y) (ov Y) ZbX h_x)<|Rq Y (Zc (ov Y) Zfd)<|Rq Y (Zb (ov Y) tS9 Y)<|Rm Y<|R2 ZdG Y<|Za<|K4 1 2 5 20 Y<|If h Y (fun h=>?_) fun h=>?_
   ·
    refine K1 5 Y<|Tr<|Rm Y<|Ra Y<|Za<|?_
    replace h := lx h ▸ ho1
    obtain rfl := rt h
    exact Zi (Zq Y (.one<|rb Y))
   ·
    exact Ze<|K3 1 2 5 Y<|Zs<|Rm Y<|R2 ZB Y<|Ra Y<|Za<|⟨_, h, ES []⟩
  ·
   refine Zu<|?_
   replace h := lx h ▸ ho1
   exact ⟨_, h, ES []⟩
 ·
  replace h := elr h
  replace h := t0i h
  refine Tr<|Ra Y<|Za<|?_
  obtain rfl := rt h
  exact Zi (Zq Y (.one<|rb Y))
theorem Zee {f : Vector Int 64} {r : Int} (h : Zaq f = some r) :
 CSpec Tryz.prog gl0 118 [.agg (List.map C51 f.toList)] (.int .i64 r) := by
 unfold Zaq at h
 replace h := ZE h
 refine So Tryz.func118 Y fun w0 A=>Tr<|Rq Y (Zv (cva<|ov Y) arL tZ_53<|arD fun _ => Y)<|Ra Y<|Za<|K2 1 2 Y<|Tr<|bE h fun x h_x h=>Rq Y (QN (ov Y) (ov Y) ZbL h_x)<|Rq Y (Zb (ov Y) Zbz<|ZG<|Xb (o := 0) (o' := ((Int.toNat 1) * 1)) (Z2 arL)<|Xs h_x)<|Rq Y (J2 (ov Y) Zhs tI3 Y)<|bE h fun q h_q h=>Rq Y (ZaL (ov Y) (ov Y) h_q)<|bE h fun x2 h_x2 h=>Rq Y (QN (ov Y) (ov Y) ZbL h_x2)<|Rq Y (Zb (ov Y) Zbz<|ZG<|Xb (o := 0) (o' := ((Int.toNat 2) * 1)) (Z2 arL)<|Xs h_x2)<|Rq Y (J2 (ov Y) Zhs tI3 Y)<|bE h fun q2 h_q2 h=>Rq Y (ZaL (ov Y) (ov Y) h_q2)<|R2 Zck Y<|R2 ZB Y<|Ra Y<|Za<|?_
 obtain rfl := rt h
 exact Zi (Zq Y (.one<|rb Y))
theorem Zjo {number : Int} {r : Int} (h : ZcR number = some r) :
 CSpec Tryz.prog gl0 117 [.int .i64 number] (.int .i64 r) := by
 unfold ZcR at h
 replace h := ZE h
 refine So Tryz.func117 Y fun w0 A=>Tr<|Ra Y<|Za<|Tr<|R_q (.agg<|List.map C3 (#v[583, 1464, 2631, 3512] : Vector Int 4).toList) Y (Zjm (ys := [_, _, _, _]) Zqu ZrJ (.cons (cvs (ov Y)<|Zp Y)<|.cons (cvs (ov Y)<|Zp Y)<|.cons (cvs (ov Y)<|Zp Y)<|.cons (cvs (ov Y)<|Zp Y) .nil) Y)<|Rm Y<|bE h fun q h_q h=>Rq Y (ZaL (ov Y) (ov Y) h_q)<|bE h fun x h_x h=>Rq Y (Zep (ov Y) (ov Y) Zqu tS3 h_x)<|Ra Y<|Za<|?_
 obtain rfl := rt h
 exact Zi (Zq Y (.one<|rb Y))
theorem Zh5 {n : Int} {r : Bool} (h : Zc3 n = some r) :
 CSpec Tryz.prog gl0 119 [.int .i64 n] (.bool r) := by
 unfold Zc3 at h
 replace h := ZE h
 refine So Tryz.func119 Y fun w0 A=>Tr<|Ra Y<|Za<|K1 0 Y<|Tr<|Ra Y<|Za<|I1 (fun ones=>⟨[(3, .int .i64 ones)], []⟩) h (fun h=>?_) fun ones h=>?_
 ·
  refine Zf<|?_
  obtain ⟨r1, hl1, ho1⟩ := Z1 h
  refine L2 (fun n2 ones2=>⟨[(0, .int .i64 n2), (3, .int .i64 ones2)], []⟩) hl1 (ES []) fun n1 n2 ones2 h=>?_
  unfold ZdX at h
  refine Zj<|Tr<|Rm Y<|R2 Qj Y<|Za<|K3 0 3 5 Y<|If h Y (fun h=>?_) fun h=>?_
  ·
   exact Ze<|Zj<|Zf<|K2 0 3 Y<|Zs<|Rm Y<|Rm Y<|bE h fun q h_q h=>Rq Y (ZaL (ov Y) (ov Y) h_q)<|R2 ZB Y<|Ra Y<|Za<|K2 0 3 Y<|Zs<|Rm Y<|bE h fun q2 h_q2 h=>Rq Y (Zcz (ov Y) (ov Y) h_q2)<|Ra Y<|Za<|⟨_, h, ES []⟩
  ·
   refine Zu<|?_
   replace h := lx h ▸ ho1
   exact ⟨_, h, ES []⟩
 ·
  refine Tr<|Rm Y<|bE h fun q3 h_q3 h=>Rq Y (ZaL (ov Y) (ov Y) h_q3)<|R2 Z4 Y<|Ra Y<|Za<|?_
  obtain rfl := rt h
  exact Zi (Zq Y (.one<|rb Y))
theorem Zk1 {f : Vector Int 64} {r : Int} (h : Zfi f = some r) :
 CSpec Tryz.prog gl0 120 [.agg (List.map C51 f.toList)] (.int .i64 r) := by
 unfold Zfi at h
 replace h := ZE h
 refine So Tryz.func120 Y fun w0 A=>Tr<|Rq Y (Zv (cva<|ov Y) arL tZ_53<|arD fun _ => Y)<|Ra Y<|Za<|K1 1 Y<|Tr<|Ra Y<|Za<|I1 (fun x=>⟨[(3, .int .i64 x)], []⟩) h (fun h=>?_) fun x h=>?_
 ·
  refine Tr<|Ra Y<|Za<|Zf<|?_
  obtain ⟨r1, hl1, ho1⟩ := Z1 h
  refine L2 (fun x2 i=>⟨[(1, .rp (List.map C51 f.toList) 0), (3, .int .i64 x2), (4, .int .i64 i)], []⟩) hl1 (ES []) fun n1 x2 i h=>?_
  unfold ZcM at h
  refine Zj<|Tr<|Rm Y<|R2 ZaZ Y<|Za<|K4 1 3 4 6 Y<|If h Y (fun h=>?_) fun h=>?_
  ·
   exact Ze<|Zj<|Zf<|K3 1 3 4 Y<|Zs<|Rm Y<|Rm Y<|bE h fun x3 h_x3 h=>Rq Y (QN (ov Y) (ov Y) ZbL h_x3)<|Rq Y (Zb (ov Y) Zbz<|ZG<|Xb (o := 0) (o' := (i.toNat * 1)) (Z2 arL)<|Xs h_x3)<|Rq Y (J2 (ov Y) Zhs tI3 Y)<|bE h fun q h_q h=>Rq Y (ZaL (ov Y) (ov Y) h_q)<|R2 ZkU Y<|Ra Y<|Za<|K3 1 3 4 Y<|Zs<|Rm Y<|R2 ZB Y<|Ra Y<|Za<|⟨_, h, ES []⟩
  ·
   refine Zu<|?_
   replace h := lx h ▸ ho1
   exact ⟨_, h, ES []⟩
 ·
  refine Tr<|Rm Y<|Ra Y<|Za<|?_
  obtain rfl := rt h
  exact Zi (Zq Y (.one<|rb Y))
theorem ZjJ {f : Vector Int 64} {r : Int} (h : ZdN f = some r) :
 CSpec Tryz.prog gl0 121 [.agg (List.map C51 f.toList)] (.int .i64 r) := by
 unfold ZdN at h
 replace h := ZE h
 refine So Tryz.func121 Y fun w0 A=>Tr<|Rq Y (Zv (cva<|ov Y) arL tZ_53<|arD fun _ => Y)<|Ra Y<|Za<|K1 1 Y<|Tr<|Ra Y<|Za<|I1 (fun rest=>⟨[(3, .int .i64 rest)], []⟩) h (fun h=>?_) fun rest h=>?_
 ·
  refine Tr<|Ra Y<|Za<|Zf<|?_
  obtain ⟨r1, hl1, ho1⟩ := Z1 h
  refine L2 (fun rest2 i=>⟨[(1, .rp (List.map C51 f.toList) 0), (3, .int .i64 rest2), (4, .int .i64 i)], []⟩) hl1 (ES []) fun n1 rest2 i h=>?_
  unfold Zbt at h
  refine Zj<|Tr<|Rm Y<|R2 Zw Y<|Za<|K4 1 3 4 7 Y<|If h Y (fun h=>?_) fun h=>?_
  ·
   refine Ze<|Zj<|Zf<|K3 1 3 4 Y<|Tr<|Ra Y<|Za<|I1 (fun bit=>⟨[(1, .rp (List.map C51 f.toList) 0), (3, .int .i64 rest2), (4, .int .i64 i), (5, .int .i64 bit)], []⟩) h (fun h=>?_) fun bit h=>?_
   ·
    refine Tr<|Rm Y<|R2 Zw Y<|Za<|K5 1 3 4 5 11 Y<|If h Y (fun h=>?_) fun h=>?_
    ·
     exact K4 1 3 4 5 Y<|Zs<|Rm Y<|bE h fun q h_q h=>Rq Y (Zcz (ov Y) (ov Y) h_q)<|bE h fun x h_x h=>Rq Y (QN (ov Y) (ov Y) ZbL h_x)<|Rq Y (Zb (ov Y) Zbz<|ZG<|Xb (o := 0) (o' := (q.toNat * 1)) (Z2 arL)<|Xs h_x)<|Rq Y (J2 (ov Y) Zhs tI3 Y)<|Rm Y<|bE h fun q2 h_q2 h=>Rq Y (ZaL (ov Y) (ov Y) h_q2)<|R2 ZaF Y<|bE h fun q3 h_q3 h=>Rq Y (Zft (ov Y) (ov Y) h_q3)<|R2 Zcp Y<|Ra Y<|Za<|⟨_, h, ES []⟩
    ·
     exact Ze<|⟨_, h, ES []⟩
   ·
    refine Tr<|Rm Y<|R2 Zck Y<|Rm Y<|R2 ZB Y<|Ra Y<|Za<|K3 1 3 4 Y<|Tr<|Rm Y<|R2 JP Y<|Za<|K4 1 3 4 27 Y<|If h Y (fun h=>?_) fun h=>?_
    ·
     exact K3 1 3 4 Y<|Zs<|Rm Y<|R2 ZkU Y<|Ra Y<|Za<|K3 1 3 4 Y<|Zs<|Rm Y<|R2 ZB Y<|Ra Y<|Za<|⟨_, h, ES []⟩
    ·
     exact Ze<|K3 1 3 4 Y<|Zs<|Rm Y<|R2 ZB Y<|Ra Y<|Za<|⟨_, h, ES []⟩
  ·
   refine Zu<|?_
   replace h := lx h ▸ ho1
   exact ⟨_, h, ES []⟩
 ·
  refine Tr<|Rm Y<|Ra Y<|Za<|?_
  obtain rfl := rt h
  exact Zi (Zq Y (.one<|rb Y))
theorem ZjI {f : Vector Int 64} {r : (List api_Flaw)} (h : ZdP f = some r) :
 CSpec Tryz.prog gl0 98 [.agg (List.map C51 f.toList)] (.sl 170 (List.map R170 r)) := by
 unfold ZdP at h
 replace h := ZE h
 refine So Tryz.func98 Y fun w0 A=>Tr<|Rq Y (Zv (cva<|ov Y) arL tZ_53<|arD fun _ => Y)<|Ra Y<|Za<|K1 1 Y<|Tr<|Ra Y<|Za<|I1 (fun out=>⟨[(1, .rp (List.map C51 f.toList) 0), (3, .own 0 out.length)], [some ⟨170, List.map R170 out⟩]⟩) h (fun h=>?_) fun out h=>?_
 ·
  refine Tr<|Rq Y (Zh (ov Y) Zik (XA<|Z2 arL) arL)<|Rm Y<|Za<|Zf<|?_
  obtain ⟨r1, hl1, ho1⟩ := Z1 h
  refine L2 (fun out2 i=>⟨[(1, .rp (List.map C51 f.toList) 0), (3, .own 0 out2.length), (7, .agg (List.map C51 f.toList)), (8, .int .i64 i)], [some ⟨170, List.map R170 out2⟩]⟩) hl1 (ES [none]) fun n1 out2 i h=>?_
  unfold Zby at h
  refine Tr<|R2 Zw Y<|Za<|Zj<|If h Y (fun h=>?_) fun h=>?_
  ·
   refine Ze<|Zj<|Zf<|K4 1 3 7 8 Y<|Tr<|Rm Y<|bE h fun x h_x h=>Rq Y (Zep (ov Y) (ov Y) ZbL Zbz h_x)<|Ra Y<|Ra Y<|Za<|K6 1 3 4 5 7 8 Y<|Tr<|Rm Y<|R2 Qj Y<|Za<|K6 1 3 4 7 8 13 Y<|If h Y (fun h=>?_) fun h=>?_
   ·
    exact K5 1 3 4 7 8 Y<|Zs<|Rm Y<|Rm Y<|Rq Y (ZA (ys := [_, _]) ZiU Zix ZkV (.cons (cvs (ov Y)<|Zp Y)<|.cons (cvs (ov Y)<|Zp Y) .nil) Y)<|R_q (.sl 170<|List.map R170 ([(api_Flaw.mk i 5)] : List api_Flaw)) Y (JO ZeQ (.cons (cva<|ov Y) Y (pwD Y) .nil) Y Y)<|bE h fun l h_l h=>Rx Y (Qf (ov Y) (Qp (ov Y) tZ_170) ZeQ Y Y Y (fun _=>Zd Y) Y h_l)<|Ra Y<|Za<|K4 1 3 7 8 Y<|Zs<|R2 ZB Y<|Rm Y<|Za<|⟨_, h, ES [some 0]⟩
   ·
    exact Ze<|K4 1 3 7 8 Y<|Zs<|R2 ZB Y<|Rm Y<|Za<|⟨_, h, ES [some 0]⟩
  ·
   refine Zu<|?_
   replace h := lx h ▸ ho1
   exact ⟨_, h, ES [some 0]⟩
 ·
  refine Zj<|Tr<|Rm Y<|Rq Y (Zc9 (ov Y) Y Y ZeQ)<|R2 Qj Y<|Za<|K3 1 3 22 Y<|If h Y (fun h=>?_) fun h=>?_
  ·
   refine K1 3 Y<|Tr<|Rm Y<|Ra Y<|Za<|?_
   obtain rfl := rt h
   exact Zi (Zq Y (.one<|.tmp Y<|View.ownM Y Y D170))
  ·
   refine Ze<|I1 (fun out3=>⟨[(1, .rp (List.map C51 f.toList) 0), (3, .own 0 out3.length)], [some ⟨170, List.map R170 out3⟩]⟩) h (fun h=>?_) fun out3 h=>?_
   ·
    refine K2 1 3 Y<|Td md0<|bE h fun x2 h_x2 h=>Dq 0 Y (QN (ov Y) (ov Y) ZbL h_x2)<|Dq 1 Y (Zb (ov Y) Zbz<|ZG<|Xb (o := 0) (o' := ((Int.toNat 0) * 1)) (Z2 arL)<|Xs h_x2)<|Dq 2 Y (J2 (ov Y) Zhs tI3 Y)<|Dq 3 Y (Zh (ov Y) Zik (XA<|Z2 arL) arL)<|bE h fun y h_y h=>Dq 4 Y (Zl (Zee h_y)<|.cons (ov Y) (.aggB<|arD fun _ => Y) .nil)<|bE h fun y2 h_y2 h=>Dq 5 Y (Zl (Zjo h_y2)<|.cons (ov Y) (.b Y) .nil)<|D2 6 QC Y<|Dd<|K3 1 3 30 Y<|If h Y (fun h=>?_) fun h=>?_
    ·
     exact K2 1 3 Y<|Zs<|Rm Y<|Rq Y (ZA (ys := [_, _]) ZiU Zix ZkV (.cons (cvs (ov Y)<|Zp Y)<|.cons (cvs (ov Y)<|Zp Y) .nil) Y)<|R_q (.sl 170<|List.map R170 ([(api_Flaw.mk 0 1)] : List api_Flaw)) Y (JO ZeQ (.cons (cva<|ov Y) Y (pwD Y) .nil) Y Y)<|bE h fun l2 h_l2 h=>Rx Y (Qf (ov Y) (Qp (ov Y) tZ_170) ZeQ Y Y Y (fun _=>Zd Y) Y h_l2)<|Ra Y<|Za<|⟨_, h, ES [some 0]⟩
    ·
     exact Ze<|⟨_, h, ES [some 0]⟩
   ·
    refine I1 (fun out4=>⟨[(1, .rp (List.map C51 f.toList) 0), (3, .own 0 out4.length)], [some ⟨170, List.map R170 out4⟩]⟩) h (fun h=>?_) fun out4 h=>?_
    ·
     refine Tr<|Ra Y<|Za<|Zf<|?_
     obtain ⟨r2, hl2, ho2⟩ := Z1 h
     refine L2 (fun out5 i2=>⟨[(1, .rp (List.map C51 f.toList) 0), (3, .own 0 out5.length), (6, .int .i64 i2)], [some ⟨170, List.map R170 out5⟩]⟩) hl2 (ES [some 0]) fun n2 out5 i2 h=>?_
     unfold Zbr at h
     refine Zj<|Tr<|Rm Y<|R2 Zw Y<|Za<|K4 1 3 6 36 Y<|If h Y (fun h=>?_) fun h=>?_
     ·
      refine Ze<|Zj<|Zf<|K3 1 3 6 Y<|Tr<|Rm Y<|bE h fun x3 h_x3 h=>Rq Y (QN (ov Y) (ov Y) ZbL h_x3)<|Rq Y (Zb (ov Y) Zbz<|ZG<|Xb (o := 0) (o' := (i2.toNat * 1)) (Z2 arL)<|Xs h_x3)<|Rq Y (J2 (ov Y) Zhs tI3 Y)<|bE h fun y3 h_y3 h=>Rq Y (Zl (Zh5 h_y3)<|.cons (ov Y) (.b Y) .nil)<|R1 Z0 Y<|Za<|K4 1 3 6 44 Y<|If h Y (fun h=>?_) fun h=>?_
      ·
       exact K3 1 3 6 Y<|Zs<|Rm Y<|Rm Y<|Rq Y (ZA (ys := [_, _]) ZiU Zix ZkV (.cons (cvs (ov Y)<|Zp Y)<|.cons (cvs (ov Y)<|Zp Y) .nil) Y)<|R_q (.sl 170<|List.map R170 ([(api_Flaw.mk i2 2)] : List api_Flaw)) Y (JO ZeQ (.cons (cva<|ov Y) Y (pwD Y) .nil) Y Y)<|bE h fun l3 h_l3 h=>Rx Y (Qf (ov Y) (Qp (ov Y) tZ_170) ZeQ Y Y Y (fun _=>Zd Y) Y h_l3)<|Ra Y<|Za<|K3 1 3 6 Y<|Zs<|Rm Y<|R2 ZB Y<|Ra Y<|Za<|⟨_, h, ES [some 0]⟩
      ·
       exact Ze<|K3 1 3 6 Y<|Zs<|Rm Y<|R2 ZB Y<|Ra Y<|Za<|⟨_, h, ES [some 0]⟩
     ·
      refine Zu<|?_
      replace h := lx h ▸ ho2
      exact ⟨_, h, ES [some 0]⟩
    ·
     refine I1 (fun out6=>⟨[(1, .rp (List.map C51 f.toList) 0), (3, .own 0 out6.length)], [some ⟨170, List.map R170 out6⟩]⟩) h (fun h=>?_) fun out6 h=>?_
     ·
      refine Td md0<|bE h fun x4 h_x4 h=>Dq 0 Y (QN (ov Y) (ov Y) ZbL h_x4)<|Dq 1 Y (Zb (ov Y) Zbz<|ZG<|Xb (o := 0) (o' := ((Int.toNat 61) * 1)) (Z2 arL)<|Xs h_x4)<|Dq 2 Y (J2 (ov Y) Zhs tI3 Y)<|bE h fun q h_q h=>Dq 3 Y (ZaL (ov Y) (ov Y) h_q)<|Dq 4 Y (Zh (ov Y) Zik (XA<|Z2 arL) arL)<|bE h fun y4 h_y4 h=>Dq 5 Y (Zl (Zk1 h_y4)<|.cons (ov Y) (.aggB<|arD fun _ => Y) .nil)<|D2 6 QC Y<|Dd<|K3 1 3 56 Y<|If h Y (fun h=>?_) fun h=>?_
      ·
       exact K2 1 3 Y<|Zs<|Rm Y<|Rq Y (ZA (ys := [_, _]) ZiU Zix ZkV (.cons (cvs (ov Y)<|Zp Y)<|.cons (cvs (ov Y)<|Zp Y) .nil) Y)<|R_q (.sl 170<|List.map R170 ([(api_Flaw.mk 61 3)] : List api_Flaw)) Y (JO ZeQ (.cons (cva<|ov Y) Y (pwD Y) .nil) Y Y)<|bE h fun l4 h_l4 h=>Rx Y (Qf (ov Y) (Qp (ov Y) tZ_170) ZeQ Y Y Y (fun _=>Zd Y) Y h_l4)<|Ra Y<|Za<|⟨_, h, ES [some 0]⟩
      ·
       exact Ze<|⟨_, h, ES [some 0]⟩
     ·
      refine Zj<|Td md0<|bE h fun x5 h_x5 h=>Dq 0 Y (QN (ov Y) (ov Y) ZbL h_x5)<|Dq 1 Y (Zb (ov Y) Zbz<|ZG<|Xb (o := 0) (o' := ((Int.toNat 62) * 1)) (Z2 arL)<|Xs h_x5)<|Dq 2 Y (J2 (ov Y) Zhs tI3 Y)<|bE h fun q2 h_q2 h=>Dq 3 Y (ZaL (ov Y) (ov Y) h_q2)<|D2 4 Zck Y<|bE h fun x6 h_x6 h=>Dq 5 Y (QN (ov Y) (ov Y) ZbL h_x6)<|Dq 6 Y (Zb (ov Y) Zbz<|ZG<|Xb (o := 0) (o' := ((Int.toNat 63) * 1)) (Z2 arL)<|Xs h_x6)<|Dq 7 Y (J2 (ov Y) Zhs tI3 Y)<|bE h fun q3 h_q3 h=>Dq 8 Y (ZaL (ov Y) (ov Y) h_q3)<|D2 9 ZB Y<|Dq 10 Y (Zh (ov Y) Zik (XA<|Z2 arL) arL)<|bE h fun y5 h_y5 h=>Dq 11 Y (Zl (ZjJ h_y5)<|.cons (ov Y) (.aggB<|arD fun _ => Y) .nil)<|D2 12 QC Y<|Dd<|K2 3 73 Y<|If h Y (fun h=>?_) fun h=>?_
      ·
       refine K1 3 Y<|Zs<|Rm Y<|Rq Y (ZA (ys := [_, _]) ZiU Zix ZkV (.cons (cvs (ov Y)<|Zp Y)<|.cons (cvs (ov Y)<|Zp Y) .nil) Y)<|R_q (.sl 170<|List.map R170 ([(api_Flaw.mk 62 4)] : List api_Flaw)) Y (JO ZeQ (.cons (cva<|ov Y) Y (pwD Y) .nil) Y Y)<|bE h fun l5 h_l5 h=>Rx Y (Qf (ov Y) (Qp (ov Y) tZ_170) ZeQ Y Y Y (fun _=>Zd Y) Y h_l5)<|Ra Y<|Za<|K1 3 Y<|Tr<|Rm Y<|Ra Y<|Za<|?_
       obtain rfl := rt h
       exact Zi (Zq Y (.one<|.tmp Y<|View.ownM Y Y D170))
      ·
       refine Ze<|K1 3 Y<|Tr<|Rm Y<|Ra Y<|Za<|?_
       obtain rfl := rt h
       exact Zi (Zq Y (.one<|.tmp Y<|View.ownM Y Y D170))
theorem ZjM {f : Vector Int 64} {r : Bool} (h : Zcx f = some r) :
 CSpec Tryz.prog gl0 74 [.agg (List.map C51 f.toList)] (.bool r) := by
 unfold Zcx at h
 replace h := ZE h
 refine So Tryz.func74 Y fun w0 A=>Tr<|Rq Y (Zv (cva<|ov Y) arL tZ_53<|arD fun _ => Y)<|Ra Y<|Za<|K2 1 2 Y<|Tr<|Rq Y (Zh (ov Y) Zik (XA<|Z2 arL) arL)<|bE h fun y h_y h=>Rq Y (Zl (ZjI h_y)<|.cons (ov Y) (.aggB<|arD fun _ => Y) .nil)<|Rl tZ_170 ZeQ Y<|R2 Z4 Y<|Ra Y<|Za<|?_
 obtain rfl := rt h
 exact Zi (Zq Y (.one<|rb Y))
theorem Zgn {w : Int} {r : Bool} (h : Zcu w = some r) :
 CSpec Tryz.prog gl0 122 [.int .u16 w] (.bool r) := by
 unfold Zcu at h
 replace h := ZE h
 refine So Tryz.func122 Y fun w0 A=>Tr<|Ra Y<|Za<|Tr<|Rm Y<|R2 ZaZ Y<|Rm Y<|Rq Y (.guarded ((decide (w ≤ 4095)) == true) Y Y Y Y fun h => Zm<|ov Y)<|Rq Y (.guarded ((decide (w ≤ 4095)) == true) Y Y Y Y fun h => J2 (ow Y h) Zhs tI3 Y)<|bE h fun y h_y h=>Rq Y (.guarded ((decide (w ≤ 4095)) == true) Y Y Y Y fun h => Zl (Zh5<|gdT h_y h)<|.cons (ow Y h) (.b Y) .nil)<|Rq Y (Ql (ov Y) fun hp=>ow Y<|gT hp)<|Ra Y<|Za<|?_
 obtain rfl := rt h
 exact Zi (Zq Y (.one<|rb Y))
theorem Zji {f : Vector Int 64} {r : Int × Bool} (h : ZcQ f = some r) :
 CSpec Tryz.prog gl0 99 [.agg (List.map C51 f.toList)] (.tuple [.int .i64 r.1, .bool r.2]) := by
 unfold ZcQ at h
 replace h := ZE h
 refine So Tryz.func99 Y fun w0 A=>Tr<|Rq Y (Zv (cva<|ov Y) arL tZ_53<|arD fun _ => Y)<|Ra Y<|Ra Y<|Za<|Zj<|K1 1 Y<|Tr<|bE h fun x h_x h=>Rq Y (QN (ov Y) (ov Y) ZbL h_x)<|Rq Y (Zb (ov Y) Zbz<|ZG<|Xb (o := 0) (o' := ((Int.toNat 1) * 1)) (Z2 arL)<|Xs h_x)<|bE h fun y h_y h=>Rq Y (Zl (Zgn h_y)<|.cons (ov Y) (.b Y) .nil)<|R1 Z0 Y<|Rm Y<|bE h fun x2 h_x2 h=>Rq Y (.guarded ((!y) == false) Y Y Y Y fun h => QN (ov Y) (ov Y) ZbL<|gdT h_x2 h)<|Rq Y (.guarded ((!y) == false) Y Y Y Y fun h => Zb (ow Y h) Zbz<|ZG<|Xb (o := 0) (o' := ((Int.toNat 2) * 1)) (Z2 arL)<|Xs<|gdT h_x2 h)<|bE h fun y2 h_y2 h=>Rq Y (.guarded ((!y) == false) Y Y Y Y fun h => Zl (Zgn<|gdT h_y2 h)<|.cons (ow Y h) (.b Y) .nil)<|Rq Y (.guarded ((!y) == false) Y Y Y Y fun h => Z0<|ow Y h)<|Rq Y (QB (ov Y) fun hp=>ow Y<|gF hp)<|Za<|K2 1 13 Y<|If h Y (fun h=>?_) fun h=>?_
 ·
  refine K0<|Tr<|Ra Y<|Ra Y<|Za<|?_
  obtain rfl := rt h
  exact Zi (Zq Y (.two (rb Y)<|rb Y))
 ·
  refine Ze<|K1 1 Y<|Tr<|Rq Y (Zh (ov Y) Zik (XA<|Z2 arL) arL)<|bE h fun y3 h_y3 h=>Rq Y (Zl (Zee h_y3)<|.cons (ov Y) (.aggB<|arD fun _ => Y) .nil)<|Ra Y<|Ra Y<|Za<|?_
  obtain rfl := rt h
  exact Zi (Zq Y (.two (rb Y)<|rb Y))
theorem Zjn {f : Vector Int 64} {r : Int} (h : Zc2 f = some r) :
 CSpec Tryz.prog gl0 75 [.agg (List.map C51 f.toList)] (.int .i64 r) := by
 unfold Zc2 at h
 replace h := ZE h
 refine So Tryz.func75 Y fun w0 A=>Tr<|Rq Y (Zv (cva<|ov Y) arL tZ_53<|arD fun _ => Y)<|Ra Y<|Za<|K1 1 Y<|Tr<|Rq Y (Zh (ov Y) Zik (XA<|Z2 arL) arL)<|bE h fun y h_y h=>Rq Y (Zl (Zji h_y)<|.cons (ov Y) (.aggB<|arD fun _ => Y) .nil)<|Rm Y<|Rq Y (Zr (ov Y) Y)<|Rq Y (Zr (ov Y) Y)<|Ra Y<|Ra Y<|Za<|K1 3 Y<|Tr<|Rm Y<|Ra Y<|Za<|?_
 obtain rfl := rt h
 exact Zi (Zq Y (.one<|rb Y))
theorem ZgR {r_ : api_Rest} {r : Int} (h : ZaR r_ = some r) :
 CSpec Tryz.prog gl0 42 [.agg ((.int .i64 r_.Number) :: ((List.map C51 r_.Frame.toList) ++ (((List.map C3 r_.States.toList) ++ ((.bool r_.Sound) :: (.int .i64 r_.Copies) :: (.bool r_.Conflict) :: [])))))] (.int .i64 r) := by
 unfold ZaR at h
 replace h := ZE h
 refine So Tryz.func42 Y fun w0 A=>Tr<|Rq Y (Zv (cva<|ov Y) ln0 tZ_56 al3)<|Ra Y<|Za<|Zj<|K1 1 Y<|Tr<|Rq Y (Zc (ov Y) JW)<|Rq Y (Zb (ov Y) tS3<|ZG at4)<|R2 Zw Y<|Rm Y<|Rq Y (.guarded ((decide (r_.Number < 0)) == false) Y Y Y Y fun h => Zc (ov Y) JW)<|Rq Y (.guarded ((decide (r_.Number < 0)) == false) Y Y Y Y fun h => Zb (ow Y h) tS3<|ZG at4)<|Rq Y (.guarded ((decide (r_.Number < 0)) == false) Y Y Y Y fun h => JP (ow Y h)<|ov Y)<|Rq Y (QB (ov Y) fun hp=>ow Y<|gF hp)<|Za<|K2 1 16 Y<|If h Y (fun h=>?_) fun h=>?_
 ·
  refine K0<|Tr<|Ra Y<|Za<|?_
  obtain rfl := rt h
  exact Zi (Zq Y (.one<|rb Y))
 ·
  refine Ze<|K1 1 Y<|Tr<|Ra Y<|Ra Y<|Ra Y<|Ra Y<|Za<|J4 (fun j => (.inr j)) (fun good known mended lost=>⟨[(1, .rp ((.int .i64 r_.Number) :: ((List.map C51 r_.Frame.toList) ++ (((List.map C3 r_.States.toList) ++ ((.bool r_.Sound) :: (.int .i64 r_.Copies) :: (.bool r_.Conflict) :: []))))) 0), (3, .int .i64 good), (4, .int .i64 known), (5, .int .i64 mended), (6, .int .i64 lost)], []⟩) h (fun h=>?_) fun good known mended lost h=>?_
  ·
   refine Tr<|Rq Y (Zc (ov Y) ZgK)<|Rq Y (Zh (ov Y) Zr7 (XA at5) arL)<|Rm Y<|Za<|Zf<|?_
   obtain ⟨r1, hl1, ho1⟩ := Z1 h
   refine L5 (fun good2 known2 mended2 lost2 i=>⟨[(1, .rp ((.int .i64 r_.Number) :: ((List.map C51 r_.Frame.toList) ++ (((List.map C3 r_.States.toList) ++ ((.bool r_.Sound) :: (.int .i64 r_.Copies) :: (.bool r_.Conflict) :: []))))) 0), (3, .int .i64 good2), (4, .int .i64 known2), (5, .int .i64 mended2), (6, .int .i64 lost2), (18, .agg (List.map C3 r_.States.toList)), (19, .int .i64 i)], []⟩) hl1 (ES []) fun n1 good2 known2 mended2 lost2 i h=>?_
   unfold Qk at h
   refine Tr<|R2 Zw Y<|Za<|Zj<|If h Y (fun h=>?_) fun h=>?_
   ·
    refine Ze<|J4 (fun j => (.inr j)) (fun good3 known3 mended3 lost3=>⟨[(1, .rp ((.int .i64 r_.Number) :: ((List.map C51 r_.Frame.toList) ++ (((List.map C3 r_.States.toList) ++ ((.bool r_.Sound) :: (.int .i64 r_.Copies) :: (.bool r_.Conflict) :: []))))) 0), (3, .int .i64 good3), (4, .int .i64 known3), (5, .int .i64 mended3), (6, .int .i64 lost3), (18, .agg (List.map C3 r_.States.toList)), (19, .int .i64 i)], []⟩) h (fun h=>?_) fun good3 known3 mended3 lost3 h=>?_
    ·
     refine Zf<|K7 1 3 4 5 6 18 19 Y<|Tr<|Rm Y<|bE h fun x h_x h=>Rq Y (Zep (ov Y) (ov Y) Zme tS3 h_x)<|Ra Y<|Ra Y<|Za<|Zj<|K9 1 3 4 5 6 7 8 18 19 Y<|Tr<|Rm Y<|R2 Zw Y<|Rm Y<|Rq Y (.guarded ((decide (x < 0)) == false) Y Y Y Y fun h => Zm<|ov Y)<|Rq Y (.guarded ((decide (x < 0)) == false) Y Y Y Y fun h => Qj (ow Y h)<|ov Y)<|Rq Y (QB (ov Y) fun hp=>ow Y<|gF hp)<|Za<|K10 1 3 4 5 6 7 8 18 19 28 Y<|If h Y (fun h=>?_) fun h=>?_
     ·
      refine K0<|Tr<|Ra Y<|Za<|?_
      replace h := lx h ▸ ho1
      obtain rfl := rt h
      exact Zi (Zq Y (.one<|rb Y))
     ·
      refine Ze<|Zj<|K9 1 3 4 5 6 7 8 18 19 Y<|Tr<|Rm Y<|R2 Z4 Y<|Rm Y<|Rq Y (.guarded ((decide (x = 0)) == true) Y Y Y Y fun h => Zm<|ov Y)<|Rq Y (.guarded ((decide (x = 0)) == true) Y Y Y Y fun h => Zc (ov Y) Zd6)<|bE h fun x2 h_x2 h=>Rq Y (.guarded ((decide (x = 0)) == true) Y Y Y Y fun h => QN (ow Y h) (ow Y h) ZbL<|gdT h_x2 h)<|Rq Y (.guarded ((decide (x = 0)) == true) Y Y Y Y fun h => Zb (ow Y h) Zbz<|ZG<|Xb (o := 1) (o' := (i.toNat * 1)) at6<|Xs<|gdT h_x2 h)<|Rq Y (.guarded ((decide (x = 0)) == true) Y Y Y Y fun h => QC (ow Y h)<|ov Y)<|Rq Y (Ql (ov Y) fun hp=>ow Y<|gT hp)<|Rm Y<|Rq Y (.guarded (((decide (x = 0)) && (!decide (x2 = 0))) == false) Y Y Y Y fun h => Zm<|ov Y)<|Rq Y (.guarded (((decide (x = 0)) && (!decide (x2 = 0))) == false) Y Y Y Y fun h => Zc (ov Y) Zd6)<|bE h fun x3 h_x3 h=>Rq Y (.guarded (((decide (x = 0)) && (!decide (x2 = 0))) == false) Y Y Y Y fun h => QN (ow Y h) (ow Y h) ZbL<|gdT h_x3 h)<|Rq Y (.guarded (((decide (x = 0)) && (!decide (x2 = 0))) == false) Y Y Y Y fun h => Zb (ow Y h) Zbz<|ZG<|Xb (o := 1) (o' := (i.toNat * 1)) at6<|Xs<|gdT h_x3 h)<|Rq Y (.guarded (((decide (x = 0)) && (!decide (x2 = 0))) == false) Y Y Y Y fun h => Qj (ow Y h)<|ov Y)<|Rq Y (QB (ov Y) fun hp=>ow Y<|gF hp)<|Za<|K9 1 3 4 5 6 8 18 19 44 Y<|If h Y (fun h=>?_) fun h=>?_
      ·
       refine K0<|Tr<|Ra Y<|Za<|?_
       replace h := lx h ▸ ho1
       obtain rfl := rt h
       exact Zi (Zq Y (.one<|rb Y))
      ·
       refine Ze<|K8 1 3 4 5 6 8 18 19 Y<|Tr<|Rm Y<|Za<|Zf<|K8 1 3 4 5 6 18 19 45 Y<|Tr<|R2 Z4 Y<|Ra Y<|Za<|K9 1 3 4 5 6 18 19 45 48 Y<|If h Y (fun h=>?_) fun h=>?_
       ·
        exact K7 1 3 4 5 6 18 19 Y<|Zs<|Rm Y<|R2 ZB Y<|Ra Y<|Za<|⟨_, h, ES []⟩
       ·
        refine K8 1 3 4 5 6 18 19 45 Y<|Tr<|R2 Z4 Y<|Ra Y<|Za<|K9 1 3 4 5 6 18 19 45 52 Y<|If h Y (fun h=>?_) fun h=>?_
        ·
         exact K7 1 3 4 5 6 18 19 Y<|Zs<|Rm Y<|R2 ZB Y<|Ra Y<|Za<|⟨_, h, ES []⟩
        ·
         refine K8 1 3 4 5 6 18 19 45 Y<|Tr<|R2 Z4 Y<|Ra Y<|Za<|K8 1 3 4 5 6 18 19 56 Y<|If h Y (fun h=>?_) fun h=>?_
         ·
          exact K7 1 3 4 5 6 18 19 Y<|Zs<|Rm Y<|R2 ZB Y<|Ra Y<|Za<|⟨_, h, ES []⟩
         ·
          exact K7 1 3 4 5 6 18 19 Y<|Zs<|Rm Y<|R2 ZB Y<|Ra Y<|Za<|⟨_, h, ES []⟩
    ·
     replace h := elr h
     replace h := t4i h
     exact Zs<|R2 ZB Y<|Rm Y<|Za<|⟨_, h, ES []⟩
   ·
    refine Zu<|?_
    replace h := lx h ▸ ho1
    exact ⟨_, h, ES []⟩
  ·
   replace h := elr h
   replace h := t4i h
   refine Zj<|Td md0<|Dq 0 Y (Zc (ov Y) Zfq)<|Dq 1 Y (Zb (ov Y) tS4<|ZG at7)<|D1 2 Zm Y<|Dq 3 Y (.guarded (r_.Sound == true) Y Y Y Y fun h => Zc (ov Y) Zd6)<|Dq 4 Y (.guarded (r_.Sound == true) Y Y Y Y fun h => Zh (ow Y h) Zik (XA at6) arL)<|bE h fun y h_y h=>Dq 5 Y (.guarded (r_.Sound == true) Y Y Y Y fun h => Zl (ZjM<|gdT h_y h)<|.cons (ow Y h) (.aggB<|arD fun _ => Y) .nil)<|Dq 6 Y (.guarded (r_.Sound == true) Y Y Y Y fun h => Z0<|ow Y h)<|Dq 7 Y (.guarded (r_.Sound == true) Y Y Y Y fun h => Zm<|ow Y h)<|Dq 8 Y (.guarded2 ((r_.Sound == true) && ((!y) == false)) Y Y Y Y fun h => Zc (ov Y) Zd6)<|Dq 9 Y (.guarded2 ((r_.Sound == true) && ((!y) == false)) Y Y Y Y fun h => Zh (ow Y h) Zik (XA at6) arL)<|bE h fun y2 h_y2 h=>Dq 10 Y (.guarded2 ((r_.Sound == true) && ((!y) == false)) Y Y Y Y fun h => Zl (Zjn<|gdT h_y2 h)<|.cons (ow Y h) (.aggB<|arD fun _ => Y) .nil)<|Dq 11 Y (.guarded2 ((r_.Sound == true) && ((!y) == false)) Y Y Y Y fun h => Zc (ov Y) JW)<|Dq 12 Y (.guarded2 ((r_.Sound == true) && ((!y) == false)) Y Y Y Y fun h => Zb (ow Y h) tS3<|ZG at4)<|Dq 13 Y (.guarded2 ((r_.Sound == true) && ((!y) == false)) Y Y Y Y fun h => QC (ow Y h)<|ow Y h)<|Dq 14 Y (.guarded (r_.Sound == true) Y Y Y Y fun h => QB (ow Y h) fun hp=>ow Y<|gA h<|gF hp)<|Dq 15 Y (.guarded (r_.Sound == true) Y Y Y Y fun h => Zm<|ow Y h)<|Dq 16 Y (.guarded2 ((r_.Sound == true) && (((!y) || (!decide (y2 = r_.Number))) == false)) Y Y Y Y fun h => Zm<|ov Y)<|Dq 17 Y (.guarded2 ((r_.Sound == true) && (((!y) || (!decide (y2 = r_.Number))) == false)) Y Y Y Y fun h => Zm<|ov Y)<|Dq 18 Y (.guarded2 ((r_.Sound == true) && (((!y) || (!decide (y2 = r_.Number))) == false)) Y Y Y Y fun h => Zjq (ow Y h) (ow Y h) Y)<|Dq 19 Y (.guarded2 ((r_.Sound == true) && (((!y) || (!decide (y2 = r_.Number))) == false)) Y Y Y Y fun h => Qj (ow Y h)<|ov Y)<|Dq 20 Y (.guarded (r_.Sound == true) Y Y Y Y fun h => QB (ow Y h) fun hp=>ow Y<|gA h<|gF hp)<|Dq 21 Y (Ql (ov Y) fun hp=>ow Y<|gT hp)<|Dd<|K4 1 3 5 82 Y<|If h Y (fun h=>?_) fun h=>?_
   ·
    refine K0<|Tr<|Ra Y<|Za<|?_
    obtain rfl := rt h
    exact Zi (Zq Y (.one<|rb Y))
   ·
    refine Ze<|Zj<|K3 1 3 5 Y<|Tr<|Rq Y (Zc (ov Y) Zfq)<|Rq Y (Zb (ov Y) tS4<|ZG at7)<|R1 Z0 Y<|Rm Y<|Rq Y (.guarded ((!r_.Sound) == true) Y Y Y Y fun h => Zm<|ov Y)<|Rq Y (.guarded ((!r_.Sound) == true) Y Y Y Y fun h => Zm<|ov Y)<|Rq Y (.guarded ((!r_.Sound) == true) Y Y Y Y fun h => Zjq (ow Y h) (ow Y h) Y)<|Rq Y (.guarded ((!r_.Sound) == true) Y Y Y Y fun h => Qj (ow Y h)<|ov Y)<|Rq Y (Ql (ov Y) fun hp=>ow Y<|gT hp)<|Za<|K3 1 3 91 Y<|If h Y (fun h=>?_) fun h=>?_
    ·
     refine K0<|Tr<|Ra Y<|Za<|?_
     obtain rfl := rt h
     exact Zi (Zq Y (.one<|rb Y))
    ·
     refine Ze<|Zj<|K2 1 3 Y<|Tr<|Rq Y (Zc (ov Y) Zkv)<|Rq Y (Zb (ov Y) tS3<|ZG at8)<|R2 Zw Y<|Rm Y<|Rq Y (.guarded ((decide (r_.Copies < 0)) == false) Y Y Y Y fun h => Zc (ov Y) Zkv)<|Rq Y (.guarded ((decide (r_.Copies < 0)) == false) Y Y Y Y fun h => Zb (ow Y h) tS3<|ZG at8)<|Rq Y (.guarded ((decide (r_.Copies < 0)) == false) Y Y Y Y fun h => Z4 (ow Y h)<|ov Y)<|Rq Y (.guarded ((decide (r_.Copies < 0)) == false) Y Y Y Y fun h => Zm<|ow Y h)<|Rq Y (.guarded2 (((decide (r_.Copies < 0)) == false) && ((decide (r_.Copies = 0)) == true)) Y Y Y Y fun h => Zc (ov Y) Zfq)<|Rq Y (.guarded2 (((decide (r_.Copies < 0)) == false) && ((decide (r_.Copies = 0)) == true)) Y Y Y Y fun h => Zb (ow Y h) tS4<|ZG at7)<|Rq Y (.guarded ((decide (r_.Copies < 0)) == false) Y Y Y Y fun h => Ql (ow Y h) fun hp=>ow Y<|gA h<|gT hp)<|Rq Y (.guarded ((decide (r_.Copies < 0)) == false) Y Y Y Y fun h => Zm<|ow Y h)<|Rq Y (.guarded2 (((decide (r_.Copies < 0)) == false) && (((decide (r_.Copies = 0)) && r_.Sound) == true)) Y Y Y Y fun h => Zm<|ov Y)<|Rq Y (.guarded2 (((decide (r_.Copies < 0)) == false) && (((decide (r_.Copies = 0)) && r_.Sound) == true)) Y Y Y Y fun h => Z4 (ow Y h)<|ov Y)<|Rq Y (.guarded ((decide (r_.Copies < 0)) == false) Y Y Y Y fun h => Ql (ow Y h) fun hp=>ow Y<|gA h<|gT hp)<|Rq Y (QB (ov Y) fun hp=>ow Y<|gF hp)<|Za<|K2 1 107 Y<|If h Y (fun h=>?_) fun h=>?_
     ·
      refine K0<|Tr<|Ra Y<|Za<|?_
      obtain rfl := rt h
      exact Zi (Zq Y (.one<|rb Y))
     ·
      refine Ze<|Zj<|K1 1 Y<|Tr<|Rq Y (Zc (ov Y) Zpa)<|Rq Y (Zb (ov Y) tS4<|ZG at9)<|Rm Y<|Rq Y (.guarded (r_.Conflict == true) Y Y Y Y fun h => Zc (ov Y) Zfq)<|Rq Y (.guarded (r_.Conflict == true) Y Y Y Y fun h => Zb (ow Y h) tS4<|ZG at7)<|Rq Y (Ql (ov Y) fun hp=>ow Y<|gT hp)<|Za<|K1 113 Y<|If h Y (fun h=>?_) fun h=>?_
      ·
       refine K0<|Tr<|Ra Y<|Za<|?_
       obtain rfl := rt h
       exact Zi (Zq Y (.one<|rb Y))
      ·
       refine Ze<|K0<|Tr<|Ra Y<|Za<|?_
       obtain rfl := rt h
       exact Zi (Zq Y (.one<|rb Y))
theorem ZgG {l : List api_Rest} {r : Int} (h : Zaj l = some r) :
 CSpec Tryz.prog gl0 21 [.sl 56 (List.map R56 l)] (.int .i64 r) := by
 unfold Zaj at h
 replace h := ZE h
 refine So Tryz.func21 Y fun w0 A=>Tr<|Ra Y<|Za<|Zj<|K1 0 Y<|Tr<|Rm Y<|Rl tZ_56 ZaE Y<|R2 Qj Y<|Za<|K2 0 8 Y<|If h Y (fun h=>?_) fun h=>?_
 ·
  refine K0<|Tr<|Ra Y<|Za<|?_
  obtain rfl := rt h
  exact Zi (Zq Y (.one<|rb Y))
 ·
  refine Ze<|J0 (fun j => (.inr j)) ⟨[(0, .sl 56 (List.map R56 l))], []⟩ h (fun h=>?_) fun h=>?_
  ·
   refine K1 0 Y<|Tr<|Ra Y<|Za<|Zf<|?_
   obtain ⟨r1, hl1, ho1⟩ := Z1 h
   refine L1 (fun i=>⟨[(0, .sl 56 (List.map R56 l)), (3, .int .i64 i)], []⟩) hl1 (ES []) fun n1 i h=>?_
   unfold J5 at h
   refine Zj<|Tr<|Rm Y<|Rm Y<|Rl tZ_56 ZaE Y<|R2 Zw Y<|Za<|K3 0 3 12 Y<|If h Y (fun h=>?_) fun h=>?_
   ·
    refine Ze<|Zj<|Zf<|K2 0 3 Y<|Tr<|Rm Y<|Rm Y<|bE h fun x h_x h=>Rq Y (Zx (ov Y) (ov Y) ZaE h_x)<|Rq Y (Zh (ov Y) ZiZ (XA<|Z2 ln0) ln0)<|bE h fun y h_y h=>Rq Y (Zl (ZgR h_y)<|.cons (ov Y) (.aggB al3) .nil)<|Ra Y<|Za<|K3 0 3 4 Y<|Tr<|Rm Y<|R2 QC Y<|Za<|K4 0 3 4 21 Y<|If h Y (fun h=>?_) fun h=>?_
    ·
     refine K1 4 Y<|Tr<|Rm Y<|Ra Y<|Za<|?_
     replace h := lx h ▸ ho1
     obtain rfl := rt h
     exact Zi (Zq Y (.one<|rb Y))
    ·
     exact Ze<|K2 0 3 Y<|Zs<|Rm Y<|R2 ZB Y<|Ra Y<|Za<|⟨_, h, ES []⟩
   ·
    refine Zu<|?_
    replace h := lx h ▸ ho1
    exact ⟨_, h, ES []⟩
  ·
   replace h := elr h
   replace h := t0i h
   refine J0 (fun j => (.inr j)) ⟨[], []⟩ h (fun h=>?_) fun h=>?_
   ·
    refine Tr<|Ra Y<|Za<|Zf<|?_
    obtain ⟨r2, hl2, ho2⟩ := Z1 h
    refine L1 (fun i2=>⟨[(0, .sl 56 (List.map R56 l)), (5, .int .i64 i2)], []⟩) hl2 (ES []) fun n2 i2 h=>?_
    unfold ZbI at h
    refine Zj<|Tr<|Rm Y<|Rm Y<|Rl tZ_56 ZaE Y<|R2 Zw Y<|Za<|K3 0 5 26 Y<|If h Y (fun h=>?_) fun h=>?_
    ·
     refine Ze<|Zj<|Zf<|K2 0 5 Y<|Td md0<|D1 0 Zm Y<|D1 1 Zm Y<|bE h fun x2 h_x2 h=>Dq 2 Y (Zx (ov Y) (ov Y) ZaE h_x2)<|Dq 3 Y (Zc (ov Y) JW)<|Dq 4 Y (Zb (ov Y) tS3<|ZG at4)<|D1 5 Zm Y<|D1 6 Zm Y<|D2 7 ZaF Y<|bE h fun x3 h_x3 h=>Dq 8 Y (Zx (ov Y) (ov Y) ZaE h_x3)<|Dq 9 Y (Zc (ov Y) JW)<|Dq 10 Y (Zb (ov Y) tS3<|ZG at4)<|D2 11 ZaZ Y<|Dd<|K3 0 5 40 Y<|If h Y (fun h=>?_) fun h=>?_
     ·
      refine K0<|Tr<|Ra Y<|Za<|?_
      replace h := lx h ▸ ho2
      obtain rfl := rt h
      exact Zi (Zq Y (.one<|rb Y))
     ·
      exact Ze<|K2 0 5 Y<|Zs<|Rm Y<|R2 ZB Y<|Ra Y<|Za<|⟨_, h, ES []⟩
    ·
     refine Zu<|?_
     replace h := lx h ▸ ho2
     exact ⟨_, h, ES []⟩
   ·
    replace h := elr h
    replace h := t0i h
    refine Tr<|Ra Y<|Za<|?_
    obtain rfl := rt h
    exact Zi (Zq Y (.one<|rb Y))
theorem ZhC {m : api_Map} {r : (List api_Cell)} (h : Zbk m = some r) :
 CSpec Tryz.prog gl0 100 [.agg [.int .i64 m.Version, .sl 45 (List.map R45 m.Params)]] (.sl 85 (List.map R85 r)) := by
 unfold Zbk at h
 replace h := ZE h
 refine So Tryz.func100 Y fun w0 A=>Tr<|Rq Y (Zv (cva<|ov Y) Y tZ_24 Y)<|Ra Y<|Za<|K1 1 Y<|Tr<|Ra Y<|Za<|I1 (fun out=>⟨[(3, .own 0 out.length)], [some ⟨85, List.map R85 out⟩]⟩) h (fun h=>?_) fun out h=>?_
 ·
  refine Tr<|Rq Y (Zc (ov Y) ZaA)<|Rq Y (Zb (ov Y) Ze4 Y)<|Rl tZ_45 ZbX Y<|Rm Y<|Za<|Zf<|?_
  obtain ⟨r1, hl1, ho1⟩ := Z1 h
  refine L2 (fun out2 i=>⟨[(3, .own 0 out2.length), (7, .sl 45 (List.map R45 m.Params)), (8, .int .i64 (m.Params.length : Int)), (9, .int .i64 i)], [some ⟨85, List.map R85 out2⟩]⟩) hl1 (ES [none]) fun n1 out2 i h=>?_
  unfold Zcw at h
  refine Tr<|R2 Zw Y<|Za<|Zj<|If h Y (fun h=>?_) fun h=>?_
  ·
   exact Ze<|Zj<|Zf<|K4 3 7 8 9 Y<|Tr<|Rm Y<|bE h fun x h_x h=>Rq Y (Zx (ov Y) (ov Y) ZbX h_x)<|Rq Y (Zh (ov Y) Q7 Y Y)<|Rx Y (Zt (row := [_, _, _, _, _, _, _, _]) 1 Y Zju Y tZ_45)<|Ra Y<|Rx Y (Zo (ov Y) (ov Y) (Zk Q7 Y) Y Y Y (Nat.le_of_ble_eq_true Y) (Zd Y) Y)<|Za<|K6 3 4 5 7 8 9 Y<|Zs<|Rm Y<|Rq Y (ZL (ov Y) Y Y Y Q7 Y Y)<|Rm Y<|bE h fun y h_y h=>Rq Y (Zl (ZcJ h_y)<|.cons (ov Y) (.aggB Y)<|.cons (ov Y) (.b Y) .nil)<|bE h fun l h_l h=>Rx Y (Zds (ov Y) (Qp (ov Y) tZ_85) Zbq Y Y (fun _=>Zd Y) Y h_l)<|Ra Y<|Za<|K4 3 7 8 9 Y<|Zs<|R2 ZB Y<|Rm Y<|Za<|⟨_, h, ES [some 0]⟩
  ·
   refine Zu<|?_
   replace h := lx h ▸ ho1
   exact ⟨_, h, ES [some 0]⟩
 ·
  refine Tr<|Rm Y<|Ra Y<|Za<|?_
  obtain rfl := rt h
  exact Zi (Zq Y (.one<|.tmp Y<|View.ownM Y Y D85))
theorem ZjE {m : api_Map} {r : (List api_Cell) × Int} (h : ZdB m = some r) :
 CSpec Tryz.prog gl0 76 [.agg [.int .i64 m.Version, .sl 45 (List.map R45 m.Params)]] (.tuple [.sl 85 (List.map R85 r.1), .int .i64 r.2]) := by
 unfold ZdB at h
 replace h := ZE h
 refine So Tryz.func76 Y fun w0 A=>Tr<|Rq Y (Zv (cva<|ov Y) Y tZ_24 Y)<|Ra Y<|Ra Y<|Za<|Zj<|K1 1 Y<|Tr<|Rq Y (Zh (ov Y) Zf6 Y Y)<|bE h fun y h_y h=>Rq Y (Zl (Zgi h_y)<|.cons (ov Y) (.aggB Y) .nil)<|Rm Y<|Rq Y (Zr (ov Y) Y)<|Rq Y (Zr (ov Y) Y)<|Ra Y<|Ra Y<|Za<|K2 1 5 Y<|Tr<|Rm Y<|R2 QC Y<|Za<|K3 1 5 12 Y<|If h Y (fun h=>?_) fun h=>?_
 ·
  refine K1 5 Y<|Tr<|Rm Y<|Ra Y<|Ra Y<|Za<|?_
  obtain rfl := rt h
  exact Zi (Zq Y (.two (.tmp Y<|View.nils 85)<|rb Y))
 ·
  refine Ze<|K1 1 Y<|Tr<|Rq Y (Zh (ov Y) Zf6 Y Y)<|bE h fun y2 h_y2 h=>Rq Y (Zl (ZhC h_y2)<|.cons (ov Y) (.aggB Y) .nil)<|Ra Y<|Ra Y<|Za<|?_
  obtain rfl := rt h
  exact Zi (Zq Y (.two (rb Y)<|rb Y))
theorem Zil {m : api_Map} {n : Int} {r : (List api_Cell)} (h : Za4 m n = some r) :
 CSpec Tryz.prog gl0 43 [.agg [.int .i64 m.Version, .sl 45 (List.map R45 m.Params)], .int .i64 n] (.sl 85 (List.map R85 r)) := by
 unfold Za4 at h
 replace h := ZE h
 refine So Tryz.func43 Y fun w0 A=>Tr<|Rq Y (Zv (cva<|ov Y) Y tZ_24 Y)<|Ra Y<|Za<|K2 1 2 Y<|Tr<|Rq Y (Zh (ov Y) Zf6 Y Y)<|bE h fun y h_y h=>Rq Y (Zl (ZjE h_y)<|.cons (ov Y) (.aggB Y) .nil)<|Rm Y<|Rq Y (Zr (ov Y) Y)<|Rq Y (Zr (ov Y) Y)<|Ra Y<|Ra Y<|Za<|K2 1 5 Y<|Tr<|Ra Y<|Za<|I1 (fun out=>⟨[(7, .own 0 out.length)], [some ⟨85, List.map R85 out⟩]⟩) h (fun h=>?_) fun out h=>?_
 ·
  refine Tr<|Ra Y<|Za<|Zf<|?_
  obtain ⟨r1, hl1, ho1⟩ := Z1 h
  refine L2 (fun out2 i=>⟨[(1, .int .i64 n), (5, .sl 85 (List.map R85 y.1)), (7, .own 0 out2.length), (8, .int .i64 i)], [some ⟨85, List.map R85 out2⟩]⟩) hl1 (ES [none]) fun n1 out2 i h=>?_
  unfold X9 at h
  refine Zj<|Tr<|Rm Y<|Rm Y<|Rl tZ_85 Zbq Y<|R2 Zw Y<|Za<|K5 1 5 7 8 17 Y<|If h Y (fun h=>?_) fun h=>?_
  ·
   refine Ze<|Zj<|Zf<|K4 1 5 7 8 Y<|Tr<|Rm Y<|Rm Y<|bE h fun x h_x h=>Rq Y (Zx (ov Y) (ov Y) Zbq h_x)<|Rq Y (Zc (ov Y) Zn6)<|Rq Y (Zb (ov Y) tS3 Y)<|Rm Y<|R2 Z4 Y<|Za<|K5 1 5 7 8 26 Y<|If h Y (fun h=>?_) fun h=>?_
   ·
    exact K4 1 5 7 8 Y<|Zs<|Rm Y<|Rm Y<|Rm Y<|bE h fun x2 h_x2 h=>Rq Y (Zx (ov Y) (ov Y) Zbq h_x2)<|Rq Y (Zh (ov Y) Ze6 Y Y)<|R_q (.sl 85<|List.map R85 ([x2] : List api_Cell)) Y (JO Zbq (.cons (cva<|ov Y) Y (pwD Y) .nil) Y Y)<|bE h fun l h_l h=>Rx Y (Qf (ov Y) (Qp (ov Y) tZ_85) Zbq Y Y Y (fun _=>Zd Y) Y h_l)<|Ra Y<|Za<|K4 1 5 7 8 Y<|Zs<|Rm Y<|R2 ZB Y<|Ra Y<|Za<|⟨_, h, ES [some 0]⟩
   ·
    exact Ze<|K4 1 5 7 8 Y<|Zs<|Rm Y<|R2 ZB Y<|Ra Y<|Za<|⟨_, h, ES [some 0]⟩
  ·
   refine Zu<|?_
   replace h := lx h ▸ ho1
   exact ⟨_, h, ES [some 0]⟩
 ·
  refine Tr<|Rm Y<|Ra Y<|Za<|?_
  obtain rfl := rt h
  exact Zi (Zq Y (.one<|.tmp Y<|View.ownM Y Y D85))
theorem Zif {p : api_Param} {cells : List api_Cell} {first : Int} {r : (List Int)} (h : Zb0 p cells first = some r) :
 CSpec Tryz.prog gl0 44 [.agg [.str p.Name, .int .i64 p.Kind, .sl 121 (List.map Z9 p.Parts), .int .i64 p.First, .int .i64 p.Every, .int .i64 p.Times, .int .i64 p.Step, .sl 9 (List.map R9 p.Names)], .sl 85 (List.map R85 cells), .int .i64 first] (.sl 3 (List.map R3 r)) := by
 unfold Zb0 at h
 replace h := ZE h
 refine So Tryz.func44 Y fun w0 A=>Tr<|Rq Y (Zv (cva<|ov Y) Y tZ_45 Y)<|Ra Y<|Za<|K3 1 2 3 Y<|Tr<|Ra Y<|Za<|Tr<|Rx Y (ZcC 0 Y Xl)<|Ra Y<|Za<|I1 (fun out=>⟨[(7, .own 0 out.length)], [some ⟨3, List.map R3 out⟩]⟩) h (fun h=>?_) fun out h=>?_
 ·
  refine K5 1 2 3 7 8 Y<|Tr<|Ra Y<|Za<|Zf<|?_
  obtain ⟨r1, hl1, ho1⟩ := Z1 h
  refine L3 (fun out2 had i=>⟨[(1, .sl 85 (List.map R85 cells)), (2, .int .i64 first), (3, .rp [.str p.Name, .int .i64 p.Kind, .sl 121 (List.map Z9 p.Parts), .int .i64 p.First, .int .i64 p.Every, .int .i64 p.Times, .int .i64 p.Step, .sl 9 (List.map R9 p.Names)] 0), (7, .own 0 out2.length), (8, .mref 1 1), (9, .int .i64 i)], [some ⟨3, List.map R3 out2⟩, some ⟨117, [[.mcon (List.map (Q3 FK3 FV3) had)]]⟩]⟩) hl1 (ES [none, some 0] (hhp := .row 3<|.cons Y (QT (fk := FK3) (fv := FV3) (m := ([] : List (Int × Int))) tZ_117 (fun _=>.dat Y) fun _=>.ren<|.dat Y) .nil)) fun n1 out2 had i h=>?_
  unfold Xx at h
  refine Zj<|Tr<|Rm Y<|Rm Y<|Rl tZ_85 Zbq Y<|R2 Zw Y<|Za<|K7 1 2 3 7 8 9 15 Y<|If h Y (fun h=>?_) fun h=>?_
  ·
   exact Ze<|Zj<|Zf<|K6 1 2 3 7 8 9 Y<|Tr<|Rm Y<|Rm Y<|bE h fun x h_x h=>Rq Y (Zx (ov Y) (ov Y) Zbq h_x)<|Rq Y (Zc (ov Y) ZnY)<|Rq Y (Zb (ov Y) tS3 Y)<|Ra Y<|Za<|K7 1 2 3 7 8 9 10 Y<|Tr<|Rm Y<|Rm Y<|Rm Y<|R2 ZB Y<|R2 Zck Y<|Rm Y<|Rm Y<|bE h fun o h_o h=>Rq Y (ZdR (m := had) (fk := FK3) (fv := FV3) (k := x.Frame) (z0 := 0) (ov Y) (ov Y) Xl ZaD Y (fun _=>.b Y) (QZ Zkt Y) (fun _ _=>Y) h_o)<|R2 Zck Y<|Rq Y (Zc (ov Y) ZcE)<|Rq Y (Zb (ov Y) tS3 Y)<|bE h fun q h_q h=>Rq Y (Zcz (ov Y) (ov Y) h_q)<|R2 ZB Y<|R_q (.sl 3<|List.map R3 ([(i64 ((i64 (64 * (i64 (first + x.Frame)))) + q))] : List Int)) Y (JO Zea (.cons (cvs (ov Y)<|Zp Y) Y (.cons (.b Y) .nil) .nil) Y Y)<|bE h fun l h_l h=>Rx Y (Qf (ov Y) (Qp (ov Y) tZ_3) Zea Y Y Y (fun _=>Zd Y) Y h_l)<|Ra Y<|Za<|K7 1 2 3 7 8 9 10 Y<|Zs<|Rm Y<|Rm Y<|bE h fun o2 h_o2 h=>Rq Y (ZdR (m := had) (fk := FK3) (fv := FV3) (k := x.Frame) (z0 := 0) (ov Y) (ov Y) Xl ZaD Y (fun _=>.b Y) (QZ Zkt Y) (fun _ _=>Y) h_o2)<|R2 ZB Y<|Rx Y (ZgU (m := had) (fk := FK3) (fv := FV3) (k := x.Frame) (v := (i64 (o2 + 1))) (ov Y) (ov Y) (ov Y) Xl ZaD Y fun _=>.b Y)<|Za<|K6 1 2 3 7 8 9 Y<|Zs<|Rm Y<|R2 ZB Y<|Ra Y<|Za<|⟨_, h, ES [some 0, some 1] (hhp := .cons Y (roM D3)<|.cons Y (QT (fk := FK3) (fv := FV3) (m := (Zei kqI had x.Frame (i64 (o2 + 1)))) tZ_117 (fun _=>.dat Y) fun _=>.ren<|.dat Y) .nil)⟩
  ·
   refine Zu<|?_
   replace h := lx h ▸ ho1
   exact ⟨_, h, ES [some 0]⟩
 ·
  refine Tr<|Rm Y<|Ra Y<|Za<|?_
  obtain rfl := rt h
  exact Zi (Zq Y (.one<|.tmp Y<|View.ownM Y Y D3))
theorem ZkE {l : List api_Rest} {from_ : Int} {to : Int} {r : (List api_Rest)} (h : Zeb l from_ to = some r) :
 CSpec Tryz.prog gl0 45 [.sl 56 (List.map R56 l), .int .i64 from_, .int .i64 to] (.sl 56 (List.map R56 r)) := by
 unfold Zeb at h
 replace h := ZE h
 refine So Tryz.func45 Y fun w0 A=>Tr<|Ra Y<|Za<|K3 0 1 2 Y<|Tr<|Ra Y<|Za<|I1 (fun a=>⟨[(0, .sl 56 (List.map R56 l)), (2, .int .i64 to), (7, .int .i64 a)], []⟩) h (fun h=>?_) fun a h=>?_
 ·
  refine Zf<|?_
  obtain ⟨r1, hl1, ho1⟩ := Z1 h
  refine L1 (fun a2=>⟨[(0, .sl 56 (List.map R56 l)), (1, .int .i64 from_), (2, .int .i64 to), (7, .int .i64 a2)], []⟩) hl1 (ES []) fun n1 a2 h=>?_
  unfold Zew at h
  refine Zj<|Tr<|Rm Y<|Rm Y<|Rl tZ_56 ZaE Y<|R2 Zw Y<|Rm Y<|Rq Y (.guarded ((decide (a2 < (l.length : Int))) == true) Y Y Y Y fun h => Zm<|ov Y)<|Rq Y (.guarded ((decide (a2 < (l.length : Int))) == true) Y Y Y Y fun h => Zm<|ov Y)<|bE h fun x h_x h=>Rq Y (.guarded ((decide (a2 < (l.length : Int))) == true) Y Y Y Y fun h => Zx (ow Y h) (ow Y h) ZaE<|gdT h_x h)<|Rq Y (.guarded ((decide (a2 < (l.length : Int))) == true) Y Y Y Y fun h => Zc (ow Y h) JW)<|Rq Y (.guarded ((decide (a2 < (l.length : Int))) == true) Y Y Y Y fun h => Zb (ow Y h) tS3<|ZG at4)<|Rq Y (.guarded ((decide (a2 < (l.length : Int))) == true) Y Y Y Y fun h => Zm<|ov Y)<|Rq Y (.guarded ((decide (a2 < (l.length : Int))) == true) Y Y Y Y fun h => Zw (ow Y h)<|ow Y h)<|Rq Y (Ql (ov Y) fun hp=>ow Y<|gT hp)<|Za<|K5 0 1 2 7 21 Y<|If h Y (fun h=>?_) fun h=>?_
  ·
   exact Ze<|Zf<|K4 0 1 2 7 Y<|Zs<|Rm Y<|R2 ZB Y<|Ra Y<|Za<|⟨_, h, ES []⟩
  ·
   refine Zu<|?_
   replace h := lx h ▸ ho1
   exact ⟨_, h, ES []⟩
 ·
  refine Tr<|Rm Y<|Ra Y<|Za<|I1 (fun b=>⟨[(0, .sl 56 (List.map R56 l)), (7, .int .i64 a), (8, .int .i64 b)], []⟩) h (fun h=>?_) fun b h=>?_
  ·
   refine Zf<|?_
   obtain ⟨r2, hl2, ho2⟩ := Z1 h
   refine L1 (fun b2=>⟨[(0, .sl 56 (List.map R56 l)), (2, .int .i64 to), (7, .int .i64 a), (8, .int .i64 b2)], []⟩) hl2 (ES []) fun n2 b2 h=>?_
   unfold ZeM at h
   refine Zj<|Tr<|Rm Y<|Rm Y<|Rl tZ_56 ZaE Y<|R2 Zw Y<|Rm Y<|Rq Y (.guarded ((decide (b2 < (l.length : Int))) == true) Y Y Y Y fun h => Zm<|ov Y)<|Rq Y (.guarded ((decide (b2 < (l.length : Int))) == true) Y Y Y Y fun h => Zm<|ov Y)<|bE h fun x2 h_x2 h=>Rq Y (.guarded ((decide (b2 < (l.length : Int))) == true) Y Y Y Y fun h => Zx (ow Y h) (ow Y h) ZaE<|gdT h_x2 h)<|Rq Y (.guarded ((decide (b2 < (l.length : Int))) == true) Y Y Y Y fun h => Zc (ow Y h) JW)<|Rq Y (.guarded ((decide (b2 < (l.length : Int))) == true) Y Y Y Y fun h => Zb (ow Y h) tS3<|ZG at4)<|Rq Y (.guarded ((decide (b2 < (l.length : Int))) == true) Y Y Y Y fun h => Zm<|ov Y)<|Rq Y (.guarded ((decide (b2 < (l.length : Int))) == true) Y Y Y Y fun h => Zw (ow Y h)<|ow Y h)<|Rq Y (Ql (ov Y) fun hp=>ow Y<|gT hp)<|Za<|K5 0 2 7 8 37 Y<|If h Y (fun h=>?_) fun h=>?_
   ·
    exact Ze<|Zf<|K4 0 2 7 8 Y<|Zs<|Rm Y<|R2 ZB Y<|Ra Y<|Za<|⟨_, h, ES []⟩
   ·
    refine Zu<|?_
    replace h := lx h ▸ ho2
    exact ⟨_, h, ES []⟩
  ·
   refine Tr<|Rm Y<|Rm Y<|Rm Y<|bE h fun l2 h_l2 h=>Rq Y (ZbC (ov Y) ZaE (oi<|ov Y) (oi<|ov Y) h_l2)<|Ra Y<|Za<|?_
   obtain rfl := rt h
   exact Zi (Zq Y (.one<|rb Y))
theorem Zjp {a : api_Where} {b : api_Where} {r : Bool} (h : ZdT a b = some r) :
 CSpec Tryz.prog gl0 123 [.agg [.int .i64 a.Number, .int .i64 a.Word], .agg [.int .i64 b.Number, .int .i64 b.Word]] (.bool r) := by
 unfold ZdT at h
 replace h := ZE h
 refine So Tryz.func123 Y fun w0 A=>Tr<|Rq Y (Zv (cva<|ov Y) Y tZ_129 Y)<|Rq Y (Zv (cva<|ov Y) Y tZ_129 Y)<|Ra Y<|Za<|K3 2 3 4 Y<|Tr<|Rq Y (Zc (ov Y) Zhn)<|Rq Y (Zb (ov Y) tS3 Y)<|Rq Y (Zc (ov Y) Zhn)<|Rq Y (Zb (ov Y) tS3 Y)<|R2 Zw Y<|Rm Y<|Rq Y (.guarded ((decide (a.Number < b.Number)) == false) Y Y Y Y fun h => Zc (ov Y) Zhn)<|Rq Y (.guarded ((decide (a.Number < b.Number)) == false) Y Y Y Y fun h => Zb (ow Y h) tS3 Y)<|Rq Y (.guarded ((decide (a.Number < b.Number)) == false) Y Y Y Y fun h => Zc (ov Y) Zhn)<|Rq Y (.guarded ((decide (a.Number < b.Number)) == false) Y Y Y Y fun h => Zb (ow Y h) tS3 Y)<|Rq Y (.guarded ((decide (a.Number < b.Number)) == false) Y Y Y Y fun h => Z4 (ow Y h)<|ow Y h)<|Rq Y (.guarded ((decide (a.Number < b.Number)) == false) Y Y Y Y fun h => Zm<|ow Y h)<|Rq Y (.guarded2 (((decide (a.Number < b.Number)) == false) && ((decide (a.Number = b.Number)) == true)) Y Y Y Y fun h => Zc (ov Y) Zg9)<|Rq Y (.guarded2 (((decide (a.Number < b.Number)) == false) && ((decide (a.Number = b.Number)) == true)) Y Y Y Y fun h => Zb (ow Y h) tS3 Y)<|Rq Y (.guarded2 (((decide (a.Number < b.Number)) == false) && ((decide (a.Number = b.Number)) == true)) Y Y Y Y fun h => Zc (ov Y) Zg9)<|Rq Y (.guarded2 (((decide (a.Number < b.Number)) == false) && ((decide (a.Number = b.Number)) == true)) Y Y Y Y fun h => Zb (ow Y h) tS3 Y)<|Rq Y (.guarded2 (((decide (a.Number < b.Number)) == false) && ((decide (a.Number = b.Number)) == true)) Y Y Y Y fun h => Zw (ow Y h)<|ow Y h)<|Rq Y (.guarded ((decide (a.Number < b.Number)) == false) Y Y Y Y fun h => Ql (ow Y h) fun hp=>ow Y<|gA h<|gT hp)<|Rq Y (QB (ov Y) fun hp=>ow Y<|gF hp)<|Ra Y<|Za<|?_
 obtain rfl := rt h
 exact Zi (Zq Y (.one<|rb Y))
theorem ZhR {l : List api_Where} {x : api_Where} {r : (List api_Where)} (h : Zbv l x = some r) :
 CSpec Tryz.prog gl0 101 [.sl 129 (List.map R129 l), .agg [.int .i64 x.Number, .int .i64 x.Word]] (.sl 129 (List.map R129 r)) := by
 unfold Zbv at h
 replace h := ZE h
 refine So Tryz.func101 Y fun w0 A=>Tr<|Rq Y (Zv (cva<|ov Y) Y tZ_129 Y)<|Ra Y<|Za<|K2 0 3 Y<|Tr<|Ra Y<|Za<|I1 (fun at_=>⟨[(0, .sl 129 (List.map R129 l)), (3, .rp [.int .i64 x.Number, .int .i64 x.Word] 0), (5, .int .i64 at_)], []⟩) h (fun h=>?_) fun at_ h=>?_
 ·
  refine Zf<|?_
  obtain ⟨r1, hl1, ho1⟩ := Z1 h
  refine L1 (fun at_2=>⟨[(0, .sl 129 (List.map R129 l)), (3, .rp [.int .i64 x.Number, .int .i64 x.Word] 0), (5, .int .i64 at_2)], []⟩) hl1 (ES []) fun n1 at_2 h=>?_
  unfold Zbb at h
  refine Zj<|Td md0<|D1 0 Zm Y<|D1 1 Zm Y<|Dq 2 Y (Zhg (Qp (ov Y) tZ_129) Zde<|Zdp _ _)<|D2 3 Zw Y<|D1 4 Zm Y<|Dq 5 Y (.guarded ((decide (at_2 < (l.length : Int))) == true) Y Y Y Y fun h => Zm<|ov Y)<|Dq 6 Y (.guarded ((decide (at_2 < (l.length : Int))) == true) Y Y Y Y fun h => Zm<|ov Y)<|bE h fun x2 h_x2 h=>Dq 7 Y (.guarded ((decide (at_2 < (l.length : Int))) == true) Y Y Y Y fun h => Zx (ow Y h) (ow Y h) Zde<|gdT h_x2 h)<|Dq 8 Y (.guarded ((decide (at_2 < (l.length : Int))) == true) Y Y Y Y fun h => Zh (ow Y h) ZjR Y Y)<|Dq 9 Y (.guarded ((decide (at_2 < (l.length : Int))) == true) Y Y Y Y fun h => Zh (ov Y) ZjR Y Y)<|bE h fun y h_y h=>Dq 10 Y (.guarded ((decide (at_2 < (l.length : Int))) == true) Y Y Y Y fun h => Zl (Zjp<|gdT h_y h)<|.cons (ow Y h) (.aggB Y)<|.cons (ow Y h) (.aggB Y) .nil)<|Dq 11 Y (Ql (ov Y) fun hp=>ow Y<|gT hp)<|Dd<|K4 0 3 5 18 Y<|If h Y (fun h=>?_) fun h=>?_
  ·
   exact Ze<|Zf<|K3 0 3 5 Y<|Zs<|Rm Y<|R2 ZB Y<|Ra Y<|Za<|⟨_, h, ES []⟩
  ·
   refine Zu<|?_
   replace h := lx h ▸ ho1
   exact ⟨_, h, ES []⟩
 ·
  refine Zj<|Td md0<|D1 0 Zm Y<|D1 1 Zm Y<|Dq 2 Y (Zhg (Qp (ov Y) tZ_129) Zde<|Zdp _ _)<|D2 3 Zw Y<|D1 4 Zm Y<|Dq 5 Y (.guarded ((decide (at_ < (l.length : Int))) == true) Y Y Y Y fun h => Zm<|ov Y)<|Dq 6 Y (.guarded ((decide (at_ < (l.length : Int))) == true) Y Y Y Y fun h => Zm<|ov Y)<|bE h fun x3 h_x3 h=>Dq 7 Y (.guarded ((decide (at_ < (l.length : Int))) == true) Y Y Y Y fun h => Zx (ow Y h) (ow Y h) Zde<|gdT h_x3 h)<|Dq 8 Y (.guarded ((decide (at_ < (l.length : Int))) == true) Y Y Y Y fun h => Zh (ow Y h) ZjR Y Y)<|Dq 9 Y (.guarded ((decide (at_ < (l.length : Int))) == true) Y Y Y Y fun h => Zh (ov Y) ZjR Y Y)<|Dq 10 Y (.guarded ((decide (at_ < (l.length : Int))) == true) Y Y Y Y fun h => Zo2 Zrn (ow Y h) (ow Y h) (.aggB Y) (.aggB Y) Y Y)<|Dq 11 Y (Ql (ov Y) fun hp=>ow Y<|gT hp)<|Dd<|K4 0 3 5 32 Y<|If h Y (fun h=>?_) fun h=>?_
  ·
   refine K1 0 Y<|Tr<|Rm Y<|Ra Y<|Za<|?_
   obtain rfl := rt h
   exact Zi (Zq Y (.one<|rb Y))
  ·
   refine Ze<|K3 0 3 5 Y<|Tr<|Rm Y<|Rm Y<|bE h fun l2 h_l2 h=>Rq Y (ZbC (ov Y) Zde on (oi<|ov Y) h_l2)<|bE h fun l3 h_l3 h=>Rx Y (Zmn (r := 0) Y (ov Y) (Qp (ov Y) tZ_129) Zde Y h_l3)<|Ra Y<|Za<|K4 0 3 5 6 Y<|Td md0<|D1 0 Zm Y<|Dq 1 Y (Zh (ov Y) ZjR Y Y)<|Zmy 2 (.sl 129<|List.map R129 ([x] : List api_Where)) Y (by kernel_rfl) Y Y (JO Zde (.cons (cva<|ov Y) Y (pwD Y) .nil) Y Y)<|Zfy 4 _ Y (by kernel_rfl) Y Y (fun hp'=>Zm<|ov Y)<|Zfy 5 _ Y (by kernel_rfl) Y Y (fun hp'=>Zm<|ov Y)<|bE h fun l4 h_l4 h=>bE h fun l5 h_l5 h=>Dw 6 3 Y (ZbC (ov Y) Zde (oi<|ov Y) on h_l4) (Qf (ov Y) (Qp (ov Y) tZ_129) Zde Y Y Y (fun _=>Zd Y) Y h_l5) ?_ ?_
   ·
    refine Do 3 Y (Qf (ov Y) (Qp (ov Y) tZ_129) Zde Y Y Y (fun _=>Zd Y) Y h_l5)<|bE h fun l6 h_l6 h=>Do 7 Y (Zds (ov Y) (Qp (ov Y) tZ_129) Zde Y Y (fun _=>Zd Y) Y h_l6)<|D1 8 Z6 Y<|Dd<|?_
    obtain rfl := rt h
    exact Zi (Zq Y (.one<|.tmp Y<|View.ownM Y Y D129))
   ·
    refine Dq 6 Y (ZbC (ov Y) Zde (oi<|ov Y) on h_l4)<|bE h fun l6 h_l6 h=>Do 7 Y (Zds (ov Y) (Qp (ov Y) tZ_129) Zde Y Y (fun _=>Zd Y) Y h_l6)<|D1 8 Z6 Y<|Dd<|?_
    obtain rfl := rt h
    exact Zi (Zq Y (.one<|.tmp Y<|View.ownM Y Y D129))
end Go.Proofs.YtacmhbfmedpkhaaGreatDoor
