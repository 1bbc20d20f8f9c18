/- A text of the proof: a verified executor of the program form, or the contracts of the functions that the law reaches. -/
import Derived.Test.YtgohgnaapbpggaaGreatDoorOkRa
set_option linter.all false
namespace Go.Proofs.YtgohgnaapbpggaaGreatDoor
open Go Go.Vx
set_option maxRecDepth 10000
set_option maxHeartbeats 1000000
set_option linter.unusedVariables false
theorem Zfa {m : api_Memory} {r : Int} (h : X3 m = some r) :
 CSpec Tryz.prog gl0 67 [.agg [.int .i64 m.Slots, .int .i64 m.Limit, .sl 22 (List.map R22 m.Sectors), .sl 3 (List.map R3 m.Wear), .sl 4 (List.map R4 m.Bad)]] (.int .i64 r) := by
 unfold X3 at h
 replace h := Z5 h
 refine So Tryz.func67 Y fun w0 A=>Tr<|Rq Y (Zdu (cva<|ov Y) Y tZ_59 Y)<|Ra Y<|Za<|K1 1 Y<|Tr<|Rq Y (Z6 (ov Y) ZH)<|Rq Y (Zi (ov Y) Ql Y)<|Rl tZ_22 Z8 Y<|Ra Y<|Za<|Zf<|Ze<|K2 1 3 Y<|Tr<|Rq Y (Z6 (ov Y) Zh2)<|Rq Y (Zi (ov Y) tS3 Y)<|bE h fun y h_y h=>Rq Y (Zr (Z3 h_y)<|.cons (ov Y) (.b Y)<|.cons (ov Y) (.b Y)<|.cons (ov Y) (.b Y) .nil)<|R1 XW Y<|Rm Y<|Rq Y (.guarded ((!y) == false) Y Y Y Y fun h => Z6 (ov Y) Zjt)<|Rq Y (.guarded ((!y) == false) Y Y Y Y fun h => Zi (ow Y h) tS3 Y)<|bE h fun y2 h_y2 h=>Rq Y (.guarded ((!y) == false) Y Y Y Y fun h => Zr (Z3<|gdT h_y2 h)<|.cons (ow Y h) (.b Y)<|.cons (ov Y) (.b Y)<|.cons (ov Y) (.b Y) .nil)<|Rq Y (.guarded ((!y) == false) Y Y Y Y fun h => XW<|ow Y h)<|Rq Y (Zdw (ov Y) fun hp=>ow Y<|gF hp)<|Rm Y<|Rq Y (.guarded (((!y) || (!y2)) == false) Y Y Y Y fun h => Zc<|ov Y)<|bE h fun y3 h_y3 h=>Rq Y (.guarded (((!y) || (!y2)) == false) Y Y Y Y fun h => Zr (Z3<|gdT h_y3 h)<|.cons (ow Y h) (.b Y)<|.cons (ov Y) (.b Y)<|.cons (ov Y) (.b Y) .nil)<|Rq Y (.guarded (((!y) || (!y2)) == false) Y Y Y Y fun h => XW<|ow Y h)<|Rq Y (Zdw (ov Y) fun hp=>ow Y<|gF hp)<|Ra Y<|Za<|K3 1 3 9 Y<|If h Y (fun h=>?_) fun h=>?_
 ·
  refine K0<|Tr<|Ra Y<|Za<|?_
  obtain rfl := rt h
  exact Zn (ZN Y (.one<|rb Y))
 ·
  refine K2 1 3 Y<|Tr<|Rq Y (Z6 (ov Y) Zfy)<|Rq Y (Zi (ov Y) ZjI Y)<|Rl tZ_3 QK Y<|Rm Y<|R2 Jf Y<|Rm Y<|Rq Y (.guarded ((!decide ((m.Wear.length : Int) = (m.Sectors.length : Int))) == false) Y Y Y Y fun h => Z6 (ov Y) ZgW)<|Rq Y (.guarded ((!decide ((m.Wear.length : Int) = (m.Sectors.length : Int))) == false) Y Y Y Y fun h => Zi (ow Y h) Zjv Y)<|Rq Y (.guarded ((!decide ((m.Wear.length : Int) = (m.Sectors.length : Int))) == false) Y Y Y Y fun h => Zgo (Qt (ow Y h) tZ_4) Zia<|ZcD _ _)<|Rq Y (.guarded ((!decide ((m.Wear.length : Int) = (m.Sectors.length : Int))) == false) Y Y Y Y fun h => Zc<|ov Y)<|Rq Y (.guarded ((!decide ((m.Wear.length : Int) = (m.Sectors.length : Int))) == false) Y Y Y Y fun h => Jf (ow Y h)<|ow Y h)<|Rq Y (Zdw (ov Y) fun hp=>ow Y<|gF hp)<|Ra Y<|Za<|K2 1 25 Y<|If h Y (fun h=>?_) fun h=>?_
  ·
   refine K0<|Tr<|Ra Y<|Za<|?_
   obtain rfl := rt h
   exact Zn (ZN Y (.one<|rb Y))
  ·
   refine Zh<|J0 (fun j => (.inr j)) ⟨[], []⟩ h (fun h=>?_) fun h=>?_
   ·
    refine K1 1 Y<|Tr<|Rq Y (Z6 (ov Y) ZH)<|Rq Y (Zi (ov Y) Ql Y)<|Rl tZ_22 Z8 Y<|Rm Y<|Za<|Ze<|?_
    obtain ⟨r1, hl1, ho1⟩ := QP h
    refine L1 (fun i=>⟨[(1, .rp [.int .i64 m.Slots, .int .i64 m.Limit, .sl 22 (List.map R22 m.Sectors), .sl 3 (List.map R3 m.Wear), .sl 4 (List.map R4 m.Bad)] 0), (39, .sl 22 (List.map R22 m.Sectors)), (40, .int .i64 (m.Sectors.length : Int)), (41, .int .i64 i)], []⟩) hl1 (ES []) fun n1 i h=>?_
    unfold XZ at h
    refine Tr<|R2 ZJ Y<|Za<|Zf<|If h Y (fun h=>?_) fun h=>?_
    ·
     refine Zh<|Zf<|Ze<|K4 1 39 40 41 Y<|Tr<|Rm Y<|bE h fun x h_x h=>Rq Y (Qo (ov Y) (ov Y) Z8 h_x)<|Rq Y (Zi (ov Y) Zhi Y)<|Ra Y<|Ra Y<|Za<|Zf<|K6 1 4 5 39 40 41 Y<|Tr<|Rm Y<|Rl tZ_5 ZL Y<|Rq Y (Z6 (ov Y) Zh2)<|Rq Y (Zi (ov Y) tS3 Y)<|bE h fun y4 h_y4 h=>Rq Y (Zr (ZT h_y4)<|.cons (ov Y) (.b Y) .nil)<|R2 Jf Y<|Za<|K6 1 4 39 40 41 51 Y<|If h Y (fun h=>?_) fun h=>?_
     ·
      refine K0<|Tr<|Ra Y<|Za<|?_
      replace h := lx h ▸ ho1
      obtain rfl := rt h
      exact Zn (ZN Y (.one<|rb Y))
     ·
      refine Zh<|Zf<|K5 1 4 39 40 41 Y<|Qm (cw := md0) (by kernel_rfl)<|Dq 0 Y (Z6 (ov Y) Zfy)<|Dq 1 Y (Zi (ov Y) ZjI Y)<|D1 2 Zc Y<|bE h fun x2 h_x2 h=>Dq 3 Y (Qo (ov Y) (ov Y) QK h_x2)<|Dq 4 Y (Zi (ov Y) tS3 Y)<|Dq 5 Y (Z6 (ov Y) Zjt)<|Dq 6 Y (Zi (ov Y) tS3 Y)<|bE h fun y5 h_y5 h=>Dq 7 Y (Zr (Z3 h_y5)<|.cons (ov Y) (.b Y)<|.cons (ov Y) (.b Y)<|.cons (ov Y) (.b Y) .nil)<|D1 8 XW Y<|Dd<|K5 1 39 40 41 60 Y<|If h Y (fun h=>?_) fun h=>?_
      ·
       refine K0<|Tr<|Ra Y<|Za<|?_
       replace h := lx h ▸ ho1
       obtain rfl := rt h
       exact Zn (ZN Y (.one<|rb Y))
      ·
       exact Zh<|K4 1 39 40 41 Y<|Zq<|R2 ZI Y<|Rm Y<|Za<|⟨_, h, ES []⟩
    ·
     refine ZD<|?_
     replace h := lx h ▸ ho1
     exact ⟨(), h, ES []⟩
   ·
    replace h := elr h
    replace h := t0i h
    refine Tr<|Ra Y<|Za<|?_
    obtain rfl := rt h
    exact Zn (ZN Y (.one<|rb Y))
theorem ZdP {l : List api_Memory} {r : Int} (h : JA l = some r) :
 CSpec Tryz.prog gl0 34 [.sl 59 (List.map R59 l)] (.int .i64 r) := by
 unfold JA at h
 replace h := Z5 h
 refine So Tryz.func34 Y fun w0 A=>Tr<|Ra Y<|Za<|Zf<|K1 0 Y<|Tr<|Rm Y<|Rl tZ_59 ZcU Y<|bE h fun y h_y h=>Rq Y (Zr (Z3 h_y)<|.cons (ov Y) (.b Y)<|.cons (ov Y) (.b Y)<|.cons (ov Y) (.b Y) .nil)<|R1 XW Y<|Za<|K2 0 9 Y<|If h Y (fun h=>?_) fun h=>?_
 ·
  refine K0<|Tr<|Ra Y<|Za<|?_
  obtain rfl := rt h
  exact Zn (ZN Y (.one<|rb Y))
 ·
  refine Zh<|J0 (fun j => (.inr j)) ⟨[], []⟩ h (fun h=>?_) fun h=>?_
  ·
   refine K1 0 Y<|Tr<|Rm Y<|Rl tZ_59 ZcU Y<|Rm Y<|Za<|Ze<|?_
   obtain ⟨r1, hl1, ho1⟩ := QP h
   refine L1 (fun i=>⟨[(10, .sl 59 (List.map R59 l)), (11, .int .i64 (l.length : Int)), (12, .int .i64 i)], []⟩) hl1 (ES []) fun n1 i h=>?_
   unfold JY at h
   refine Tr<|R2 ZJ Y<|Za<|Zf<|If h Y (fun h=>?_) fun h=>?_
   ·
    refine Zh<|Zf<|Ze<|K3 10 11 12 Y<|Tr<|bE h fun x h_x h=>Rq Y (Qo (ov Y) (ov Y) ZcU h_x)<|Rq Y (Xp (ov Y) Jt Y Y)<|Rx Y (Qg (row := [_, _, _, _, _]) 0 Y Zdx Y tZ_59)<|Rx Y (Zm (ov Y) (ov Y) (Zy Jt Y) Y Y Y (Nat.le_of_ble_eq_true Y) (Zb Y) Y)<|Za<|K4 4 10 11 12 Y<|Tr<|Rq Y (QE (ov Y) Y Y Y Jt Y Y)<|bE h fun y2 h_y2 h=>Rq Y (Zr (Zfa h_y2)<|.cons (ov Y) (.aggB Y) .nil)<|Ra Y<|Za<|K4 5 10 11 12 Y<|Tr<|Rm Y<|R2 Jf Y<|Za<|K5 5 10 11 12 19 Y<|If h Y (fun h=>?_) fun h=>?_
    ·
     refine K1 5 Y<|Tr<|Rm Y<|Ra Y<|Za<|?_
     replace h := lx h ▸ ho1
     obtain rfl := rt h
     exact Zn (ZN Y (.one<|rb Y))
    ·
     exact Zh<|K3 10 11 12 Y<|Zq<|R2 ZI Y<|Rm Y<|Za<|⟨_, h, ES []⟩
   ·
    refine ZD<|?_
    replace h := lx h ▸ ho1
    exact ⟨(), h, ES []⟩
  ·
   replace h := elr h
   replace h := t0i h
   refine Tr<|Ra Y<|Za<|?_
   obtain rfl := rt h
   exact Zn (ZN Y (.one<|rb Y))
theorem Zjc {xs r : List Int} (h : Zee 1 xs = some r) :
 GSpec Tryz.prog gl0 100 [.sl 5 (List.map R5 xs)] [] (.own 0 r.length) [some ⟨5, List.map R5 r⟩] := by
 have h2 : apz 1 [] xs = some r := h
 refine Z1 (by kernel_rfl) Tryz.func100 Y Y<|?_
 intro w0 A W φ0
 refine Tr<|Ra Y<|Za<|Zf<|Zf<|Zq<|Rm Y<|ZiO (ov Y) ZlV Y fun b hb=>?_
 refine Za<|ZiG Y (fun hb2=>?_) fun hb2=>?_
 ·
  obtain rfl : xs = [] := by simpa using hb hb2
  obtain rfl : r = [] := by simpa [app, apz] using h2.symm
  exact Tr<|Ra Y<|Za<|Zn<|XY [none] Y (.cons (.tmp Y) .nil) (.row 5 .nil) Y Y<|.row Y
 ·
  exact Zh<|Tr<|Rx Y (ZgV (r := 0) (xs := []) (f := R5) Y ZL .nil Y Y Y)<|Rm Y<|Rx Y (ZdE (ov Y) (Qt (ov Y) tZ_5) ZL Y Y (fun _=>Zb Y) Y h2)<|Ra Y<|Za<|Zn<|XY [some 0] Y (.cons (.tmp Y) .nil) (.cons Y (roM D5) .nil) Y Y<|.own _ Y
theorem Zg8 {xs r : List Int} (h : Zee 8 xs = some r) :
 GSpec Tryz.prog gl0 101 [.sl 3 (List.map R3 xs)] [] (.own 0 r.length) [some ⟨3, List.map R3 r⟩] := by
 have h2 : apz 8 [] xs = some r := h
 refine Z1 (by kernel_rfl) Tryz.func101 Y Y<|?_
 intro w0 A W φ0
 refine Tr<|Ra Y<|Za<|Zf<|Zf<|Zq<|Rm Y<|ZiO (ov Y) Zl6 Y fun b hb=>?_
 refine Za<|ZiG Y (fun hb2=>?_) fun hb2=>?_
 ·
  obtain rfl : xs = [] := by simpa using hb hb2
  obtain rfl : r = [] := by simpa [app, apz] using h2.symm
  exact Tr<|Ra Y<|Za<|Zn<|XY [none] Y (.cons (.tmp Y) .nil) (.row 3 .nil) Y Y<|.row Y
 ·
  exact Zh<|Tr<|Rx Y (ZgV (r := 0) (xs := []) (f := R3) Y QK .nil Y Y Y)<|Rm Y<|Rx Y (ZdE (ov Y) (Qt (ov Y) tZ_3) QK Y Y (fun _=>Zb Y) Y h2)<|Ra Y<|Za<|Zn<|XY [some 0] Y (.cons (.tmp Y) .nil) (.cons Y (roM D3) .nil) Y Y<|.own _ Y
theorem Zg3 {xs r : List Bool} (h : Zee 1 xs = some r) :
 GSpec Tryz.prog gl0 102 [.sl 4 (List.map R4 xs)] [] (.own 0 r.length) [some ⟨4, List.map R4 r⟩] := by
 have h2 : apz 1 [] xs = some r := h
 refine Z1 (by kernel_rfl) Tryz.func102 Y Y<|?_
 intro w0 A W φ0
 refine Tr<|Ra Y<|Za<|Zf<|Zf<|Zq<|Rm Y<|ZiO (ov Y) ZlM Y fun b hb=>?_
 refine Za<|ZiG Y (fun hb2=>?_) fun hb2=>?_
 ·
  obtain rfl : xs = [] := by simpa using hb hb2
  obtain rfl : r = [] := by simpa [app, apz] using h2.symm
  exact Tr<|Ra Y<|Za<|Zn<|XY [none] Y (.cons (.tmp Y) .nil) (.row 4 .nil) Y Y<|.row Y
 ·
  exact Zh<|Tr<|Rx Y (ZgV (r := 0) (xs := []) (f := R4) Y Zia .nil Y Y Y)<|Rm Y<|Rx Y (ZdE (ov Y) (Qt (ov Y) tZ_4) Zia Y Y (fun _=>Zb Y) Y h2)<|Ra Y<|Za<|Zn<|XY [some 0] Y (.cons (.tmp Y) .nil) (.cons Y (roM D4) .nil) Y Y<|.own _ Y
theorem Zcg {m : api_Memory} {r : api_Memory} (h : Ju m = some r) :
 GSpec Tryz.prog gl0 68 [.agg [.int .i64 m.Slots, .int .i64 m.Limit, .sl 22 (List.map R22 m.Sectors), .sl 3 (List.map R3 m.Wear), .sl 4 (List.map R4 m.Bad)]] [] (.agg [.int .i64 r.Slots, .int .i64 r.Limit, .own 0 r.Sectors.length, .own 1 r.Wear.length, .own 2 r.Bad.length]) [some ⟨22, List.map O22 r.Sectors⟩, some ⟨3, List.map R3 r.Wear⟩, some ⟨4, List.map R4 r.Bad⟩] := by
 unfold Ju at h
 replace h := Z5 h
 refine Z1 (by kernel_rfl) Tryz.func68 Y Y<|?_
 intro w0 A W φ0
 refine Tr<|Rx Y (ZjW 0 Y (ov Y) Jt Y)<|Rx Y (Qg (row := [_, _, _, _, _]) 1 Y Zdx Y tZ_59)<|Za<|K2 1 2 Y<|Tr<|Ra Y<|Za<|I1 (fun sectors=>⟨[(1, .ptr 0 1 0 0), (2, .ptr 1 1 0 0), (3, .own 2 sectors.length)], [some ⟨59, [[.int .i64 m.Slots, .int .i64 m.Limit, .sl 22 (List.map R22 m.Sectors), .sl 3 (List.map R3 m.Wear), .sl 4 (List.map R4 m.Bad)]]⟩, some ⟨59, [[.int .i64 0, .int .i64 0, .nils, .nils, .nils]]⟩, some ⟨22, List.map O22 sectors⟩]⟩) h (fun h=>?_) fun sectors h=>?_
 ·
  refine Tr<|Rq Y (Zl (ov Y) Y Y ZH)<|Rq Y (Zt (ov Y) Y Y Y Ql Y)<|Rl tZ_22 Z8 Y<|Rm Y<|Za<|Ze<|?_
  obtain ⟨r1, hl1, ho1⟩ := QP h
  refine L2 (fun sectors2 i=>⟨[(1, .ptr 0 1 0 0), (2, .ptr 1 1 0 0), (3, .own 2 sectors2.length), (7, .sl 22 (List.map R22 m.Sectors)), (8, .int .i64 (m.Sectors.length : Int)), (9, .int .i64 i)], [some ⟨59, [[.int .i64 m.Slots, .int .i64 m.Limit, .sl 22 (List.map R22 m.Sectors), .sl 3 (List.map R3 m.Wear), .sl 4 (List.map R4 m.Bad)]]⟩, some ⟨59, [[.int .i64 0, .int .i64 0, .nils, .nils, .nils]]⟩, some ⟨22, List.map O22 sectors2⟩]⟩) hl1 (ES [some 0, some 1, none]) fun n1 sectors2 i h=>?_
  unfold Jq at h
  refine Tr<|R2 ZJ Y<|Za<|Zf<|If h Y (fun h=>?_) fun h=>?_
  ·
   exact Zh<|Zf<|Ze<|K6 1 2 3 7 8 9 Y<|Tr<|bE h fun x h_x h=>Rq Y (Qo (ov Y) (ov Y) Z8 h_x)<|Rq Y (Zi (ov Y) Zhi Y)<|Ra Y<|Za<|K7 1 2 3 5 7 8 9 Y<|Zq<|Rm Y<|Rm Y<|bE h fun y h_y h=>Rx Y (Zv [] (Zjc h_y) (.cons (ov Y) (.dat Y) .nil) .nil Y (.keep Y Y<|.keep Y Y<|.keep Y Y<|.lent 0 (.inr ⟨Nat.le_of_ble_eq_true Y, Y⟩) Y (roM D5) .nil) Y Y<|.own _<|.inr ⟨Nat.le_of_ble_eq_true Y, Y⟩)<|Rx Y (Qw (r := 4) Y Z8 (.cons (cvs (ov Y)<|Zj Y) Y .nil) Y Y)<|bE h fun l h_l h=>Rx Y (ZE (f := O22) (ov Y) (ZZ (o := ⟨22, [[.own 3 y.length]]⟩) (ov Y) Y Y tZ_22) Z8 Y Y (Zb Y) Y h_l)<|Ra Y<|ZeS [some ⟨59, [[.int .i64 m.Slots, .int .i64 m.Limit, .sl 22 (List.map R22 m.Sectors), .sl 3 (List.map R3 m.Wear), .sl 4 (List.map R4 m.Bad)]]⟩, some ⟨59, [[.int .i64 0, .int .i64 0, .nils, .nils, .nils]]⟩, some ⟨22, List.set (List.map O22 l) sectors2.length [.own 3 y.length]⟩, some ⟨5, List.map R5 y⟩, some ⟨22, [[.own 3 y.length]]⟩] Y<|QW (Ent.absorbH (r := 2) (j := 0) (q := 3) Y (Zo h_l) Y Y (List.length_map ..) Y)<|QW (Ent.closeS (r := 2) Y (Zo h_l) Y)<|Za<|K6 1 2 3 7 8 9 Y<|Xa [some ⟨59, [[.int .i64 m.Slots, .int .i64 m.Limit, .sl 22 (List.map R22 m.Sectors), .sl 3 (List.map R3 m.Wear), .sl 4 (List.map R4 m.Bad)]]⟩, some ⟨59, [[.int .i64 0, .int .i64 0, .nils, .nils, .nils]]⟩, some ⟨22, List.map O22 l⟩, none, some ⟨22, [[.own 3 y.length]]⟩] Y<|Zq<|R2 ZI Y<|Rm Y<|Za<|⟨_, h, ES [some 0, some 1, some 2] (hhp := .cons Y (ro1 (by exact tZ_59.symm)<|rld Y)<|.cons Y (ro1 (by exact tZ_59.symm)<|rld Y)<|.cons Y (roO XD) .nil)⟩
  ·
   refine ZD<|?_
   replace h := lx h ▸ ho1
   exact ⟨_, h, ES [some 0, some 1, some 2] (hhp := .cons Y (ro1 (by exact tZ_59.symm)<|rld Y)<|.cons Y (ro1 (by exact tZ_59.symm)<|rld Y)<|.cons Y (roO XD) .nil)⟩
 ·
  refine Zf<|Qm (cw := ⟨true, true, [some ⟨59, [[.int .i64 m.Slots, .int .i64 m.Limit, .sl 22 (List.map R22 m.Sectors), .sl 3 (List.map R3 m.Wear), .sl 4 (List.map R4 m.Bad)]]⟩, some ⟨59, [[.int .i64 0, .int .i64 0, .nils, .nils, .nils]]⟩, some ⟨22, List.map O22 sectors⟩], [], [0]⟩) (by kernel_rfl)<|Dq 1 Y (Zl (ov Y) Y Y Zfy)<|Dq 2 Y (Zt (ov Y) Y Y Y ZjI Y)<|ZM 0 _ Y (by kernel_rfl) Y Y (fun hp'=>Zc<|ov Y)<|XE 4 _ Y (by kernel_rfl) Y Y Y (EL.ext<|.wr Y Y Y<|.keep<|.keep .nil) (fun hp' hx=>exW (r := 0) hx Y fun _ ho hn => Zl (ov Y) ho hn ZgW)<|bE h fun y2 h_y2 h=>ZkO 5 3 Y Y (by kernel_rfl) Y Y Y Y (fun h=>by cases h) (fun _=>by exact EL.ext (.wr rfl rfl rfl <| .keep <| .keep <| .nil)) (Zt (ov Y) Y Y Y Zjv Y) (Zv [] (Zg8 h_y2) (.cons (ov Y) (.dat Y) .nil) .nil Y (.keep Y Y<|.keep Y Y<|.keep Y Y<|.lent 0 (.inr ⟨Nat.le_of_ble_eq_true Y, Y⟩) Y (roM D3) .nil) Y Y<|.own _<|.inr ⟨Nat.le_of_ble_eq_true Y, Y⟩) ?_ ?_
  ·
   refine XE 7 _ Y (by kernel_rfl) Y Y Y (EL.ext<|.wr Y Y Y<|.keep<|.keep .nil) (fun hp' hx=>exW (r := 0) hx Y fun _ ho hn => Zl (ov Y) ho hn ZH)<|JK 3 _ _ Y (by kernel_rfl) Y Y (fun h=>by cases h) (fun _=>by exact EL.ext (.wr rfl rfl rfl <| .keep <| .keep <| .nil)) (Zv [] (Zg8 h_y2) (.cons (ov Y) (.dat Y) .nil) .nil Y (.keep Y Y<|.keep Y Y<|.keep Y Y<|.lent 0 (.inr ⟨Nat.le_of_ble_eq_true Y, Y⟩) Y (roM D3) .nil) Y Y<|.own _<|.inr ⟨Nat.le_of_ble_eq_true Y, Y⟩)<|bE h fun y3 h_y3 h=>JK 6 _ _ Y (by kernel_rfl) Y Y (fun h=>by cases h) (fun _=>by exact EL.ext (.wr rfl rfl rfl <| .keep <| .keep <| .nil)) (Zv [] (Zg3 h_y3) (.cons (ov Y) (.dat Y) .nil) .nil Y (.keep Y Y<|.keep Y Y<|.keep Y Y<|.keep Y Y<|.lent 0 (.inr ⟨Nat.le_of_ble_eq_true Y, Y⟩) Y (roM D4) .nil) Y Y<|.own _<|.inr ⟨Nat.le_of_ble_eq_true Y, Y⟩)<|JK 8 _ _ Y (by kernel_rfl) Y Y (fun h=>by cases h) (fun _=>by exact EL.ext (.wr rfl rfl rfl <| .keep <| .keep <| .nil)) (Zm (ov Y) (ov Y) (Zd Ql) Y Y Y (Nat.le_of_ble_eq_true Y) (Zb Y) Y)<|Dq 9 Y (Zl (ov Y) Y Y Zfy)<|JK 10 _ _ Y (by kernel_rfl) Y Y (fun h=>by cases h) (fun _=>by exact EL.ext (.wr rfl rfl rfl <| .keep <| .keep <| .nil)) (Zm (ov Y) (ov Y) (Zd ZjI) Y Y Y (Nat.le_of_ble_eq_true Y) (Zb Y) Y)<|Dq 11 Y (Zl (ov Y) Y Y ZgW)<|JK 12 _ _ Y (by kernel_rfl) Y Y (fun h=>by cases h) (fun _=>by exact EL.ext (.wr rfl rfl rfl <| .keep <| .keep <| .nil)) (Zm (ov Y) (ov Y) (Zd Zjv) Y Y Y (Nat.le_of_ble_eq_true Y) (Zb Y) Y)<|Dd<|K2 1 2 Y<|Xa [some ⟨59, [[.int .i64 m.Slots, .int .i64 m.Limit, .own 2 sectors.length, .own 3 y2.length, .own 4 y3.length]]⟩, some ⟨59, [[.int .i64 0, .int .i64 0, .nils, .nils, .nils]]⟩, some ⟨22, List.map O22 sectors⟩, some ⟨3, List.map R3 y2⟩, some ⟨4, List.map R4 y3⟩] Y<|Tr<|Rq Y (QE (ov Y) Y Y Y Jt Y Y)<|Rx Y (Zm (ov Y) (ov Y) (Zy Jt Y) Y Y Y (Nat.le_of_ble_eq_true Y) (Zb Y) Y)<|Za<|?_
   obtain rfl := rt h
   exact Zn<|XY [some 2, some 3, some 4] Y (.cons (.agg Y Y Y Y Jt Y Y) .nil) (.cons Y (roO XD)<|.cons Y (roM D3)<|.cons Y (roM D4) .nil) Y Y<|Zey<|rlc (.dat Y)<|rlc (.dat Y)<|rlc (.own _ Y)<|rlc (.own _ Y)<|rlc (.own _ Y) rln
  ·
   refine Dq 5 Y (Zt (ov Y) Y Y Y Zjv Y)<|XE 7 _ Y (by kernel_rfl) Y Y Y (EL.ext<|.wr Y Y Y<|.keep<|.keep .nil) (fun hp' hx=>exW (r := 0) hx Y fun _ ho hn => Zl (ov Y) ho hn ZH)<|bE h fun y3 h_y3 h=>JK 6 _ _ Y (by kernel_rfl) Y Y (fun h=>by cases h) (fun _=>by exact EL.ext (.wr rfl rfl rfl <| .keep <| .keep <| .nil)) (Zv [] (Zg3 h_y3) (.cons (ov Y) (.dat Y) .nil) .nil Y (.keep Y Y<|.keep Y Y<|.keep Y Y<|.keep Y Y<|.lent 0 (.inr ⟨Nat.le_of_ble_eq_true Y, Y⟩) Y (roM D4) .nil) Y Y<|.own _<|.inr ⟨Nat.le_of_ble_eq_true Y, Y⟩)<|JK 8 _ _ Y (by kernel_rfl) Y Y (fun h=>by cases h) (fun _=>by exact EL.ext (.wr rfl rfl rfl <| .keep <| .keep <| .nil)) (Zm (ov Y) (ov Y) (Zd Ql) Y Y Y (Nat.le_of_ble_eq_true Y) (Zb Y) Y)<|Dq 9 Y (Zl (ov Y) Y Y Zfy)<|JK 10 _ _ Y (by kernel_rfl) Y Y (fun h=>by cases h) (fun _=>by exact EL.ext (.wr rfl rfl rfl <| .keep <| .keep <| .nil)) (Zm (ov Y) (ov Y) (Zd ZjI) Y Y Y (Nat.le_of_ble_eq_true Y) (Zb Y) Y)<|Dq 11 Y (Zl (ov Y) Y Y ZgW)<|JK 12 _ _ Y (by kernel_rfl) Y Y (fun h=>by cases h) (fun _=>by exact EL.ext (.wr rfl rfl rfl <| .keep <| .keep <| .nil)) (Zm (ov Y) (ov Y) (Zd Zjv) Y Y Y (Nat.le_of_ble_eq_true Y) (Zb Y) Y)<|Dd<|K2 1 2 Y<|Xa [some ⟨59, [[.int .i64 m.Slots, .int .i64 m.Limit, .own 2 sectors.length, .own 3 y2.length, .own 4 y3.length]]⟩, some ⟨59, [[.int .i64 0, .int .i64 0, .nils, .nils, .nils]]⟩, some ⟨22, List.map O22 sectors⟩, some ⟨3, List.map R3 y2⟩, some ⟨4, List.map R4 y3⟩] Y<|Tr<|Rq Y (QE (ov Y) Y Y Y Jt Y Y)<|Rx Y (Zm (ov Y) (ov Y) (Zy Jt Y) Y Y Y (Nat.le_of_ble_eq_true Y) (Zb Y) Y)<|Za<|?_
   obtain rfl := rt h
   exact Zn<|XY [some 2, some 3, some 4] Y (.cons (.agg Y Y Y Y Jt Y Y) .nil) (.cons Y (roO XD)<|.cons Y (roM D3)<|.cons Y (roM D4) .nil) Y Y<|Zey<|rlc (.dat Y)<|rlc (.dat Y)<|rlc (.own _ Y)<|rlc (.own _ Y)<|rlc (.own _ Y) rln
theorem Zge {l : List api_Memory} {r : (List api_Memory)} (h : XK l = some r) :
 GSpec Tryz.prog gl0 35 [.sl 59 (List.map R59 l)] [] (.own 0 r.length) [some ⟨59, List.map O59 r⟩] := by
 unfold XK at h
 replace h := Z5 h
 refine Z1 (by kernel_rfl) Tryz.func35 Y Y<|?_
 intro w0 A W φ0
 refine Tr<|Ra Y<|Za<|K1 0 Y<|Tr<|Ra Y<|Za<|I1 (fun out=>⟨[(3, .own 0 out.length)], [some ⟨59, List.map O59 out⟩]⟩) h (fun h=>?_) fun out h=>?_
 ·
  refine Tr<|Rm Y<|Rl tZ_59 ZcU Y<|Rm Y<|Za<|Ze<|?_
  obtain ⟨r1, hl1, ho1⟩ := QP h
  refine L2 (fun out2 i=>⟨[(3, .own 0 out2.length), (6, .sl 59 (List.map R59 l)), (7, .int .i64 (l.length : Int)), (8, .int .i64 i)], [some ⟨59, List.map O59 out2⟩]⟩) hl1 (ES [none]) fun n1 out2 i h=>?_
  unfold Jx at h
  refine Tr<|R2 ZJ Y<|Za<|Zf<|If h Y (fun h=>?_) fun h=>?_
  ·
   exact Zh<|Zf<|Ze<|K4 3 6 7 8 Y<|Tr<|bE h fun x h_x h=>Rq Y (Qo (ov Y) (ov Y) ZcU h_x)<|Rq Y (Xp (ov Y) Jt Y Y)<|Rx Y (Qg (row := [_, _, _, _, _]) 1 Y Zdx Y tZ_59)<|Rx Y (Zm (ov Y) (ov Y) (Zy Jt Y) Y Y Y (Nat.le_of_ble_eq_true Y) (Zb Y) Y)<|Za<|K5 3 5 6 7 8 Y<|Xa [some ⟨59, List.map O59 out2⟩, some ⟨59, [[.int .i64 x.Slots, .int .i64 x.Limit, .sl 22 (List.map R22 x.Sectors), .sl 3 (List.map R3 x.Wear), .sl 4 (List.map R4 x.Bad)]]⟩] Y<|Zq<|Rm Y<|Rq Y (QE (ov Y) Y Y Y Jt Y Y)<|bE h fun y h_y h=>Rx Y (Zv [] (Zcg h_y) (.cons (ov Y) (Zey<|rld Y) .nil) .nil Y (.keep Y Y<|.keep Y Y<|.lent 0 (.inr ⟨Nat.le_of_ble_eq_true Y, Y⟩) Y (roO XD)<|.lent 1 (.inr ⟨Nat.le_of_ble_eq_true Y, Y⟩) Y (roM D3)<|.lent 2 (.inr ⟨Nat.le_of_ble_eq_true Y, Y⟩) Y (roM D4) .nil) Y Y<|Zey<|rlc (.dat Y)<|rlc (.dat Y)<|rlc (.own _<|.inr ⟨Nat.le_of_ble_eq_true Y, Y⟩)<|rlc (.own _<|.inr ⟨Nat.le_of_ble_eq_true Y, Y⟩)<|rlc (.own _<|.inr ⟨Nat.le_of_ble_eq_true Y, Y⟩) rln)<|Rx Y (Qw (r := 5) Y ZcU (.cons (cva<|ov Y) Y .nil) Y Y)<|bE h fun l2 h_l2 h=>Rx Y (ZE (f := O59) (ov Y) (ZZ (o := ⟨59, [[.int .i64 y.Slots, .int .i64 y.Limit, .own 2 y.Sectors.length, .own 3 y.Wear.length, .own 4 y.Bad.length]]⟩) (ov Y) Y Y tZ_59) ZcU Y Y (Zb Y) Y h_l2)<|Ra Y<|ZeS [some ⟨59, List.set (List.map O59 l2) out2.length [.int .i64 y.Slots, .int .i64 y.Limit, .own 2 y.Sectors.length, .own 3 y.Wear.length, .own 4 y.Bad.length]⟩, some ⟨59, [[.int .i64 x.Slots, .int .i64 x.Limit, .sl 22 (List.map R22 x.Sectors), .sl 3 (List.map R3 x.Wear), .sl 4 (List.map R4 x.Bad)]]⟩, some ⟨22, List.map O22 y.Sectors⟩, some ⟨3, List.map R3 y.Wear⟩, some ⟨4, List.map R4 y.Bad⟩, some ⟨59, [[.int .i64 y.Slots, .int .i64 y.Limit, .own 2 y.Sectors.length, .own 3 y.Wear.length, .own 4 y.Bad.length]]⟩] Y<|QW (Ent.absorbH (r := 0) (j := 2) (q := 2) Y (Zo h_l2) Y Y (List.length_map ..) Y)<|QW (Ent.absorbH (r := 0) (j := 3) (q := 3) Y (Zo h_l2) Y Y (List.length_map ..) Y)<|QW (Ent.absorbH (r := 0) (j := 4) (q := 4) Y (Zo h_l2) Y Y (List.length_map ..) Y)<|QW (Ent.closeS (r := 0) Y (Zo h_l2) Y)<|Za<|K4 3 6 7 8 Y<|Xa [some ⟨59, List.map O59 l2⟩, some ⟨59, [[.int .i64 x.Slots, .int .i64 x.Limit, .sl 22 (List.map R22 x.Sectors), .sl 3 (List.map R3 x.Wear), .sl 4 (List.map R4 x.Bad)]]⟩, none, none, none, some ⟨59, [[.int .i64 y.Slots, .int .i64 y.Limit, .own 2 y.Sectors.length, .own 3 y.Wear.length, .own 4 y.Bad.length]]⟩] Y<|Zq<|R2 ZI Y<|Rm Y<|Za<|⟨_, h, ES [some 0] (hhp := .cons Y (roO XC) .nil)⟩
  ·
   refine ZD<|?_
   replace h := lx h ▸ ho1
   exact ⟨_, h, ES [some 0] (hhp := .cons Y (roO XC) .nil)⟩
 ·
  refine Tr<|Rm Y<|Ra Y<|Za<|?_
  obtain rfl := rt h
  exact Zn<|XY [some 0] Y (.cons (.tmp Y) .nil) (.cons Y (roO XC) .nil) Y Y<|.own _ Y
theorem ZeZ {sequence : Int} {r : (List Int)} (h : ZaV sequence = some r) :
 CSpec Tryz.prog gl0 73 [.int .i64 sequence] (.sl 5 (List.map R5 r)) := by
 unfold ZaV at h
 replace h := Z5 h
 refine So Tryz.func73 Y fun w0 A=>Tr<|Ra Y<|Za<|K1 0 Y<|Tr<|Rx Y (ZgV (r := 0) (xs := ([79, 66] : List Int)) (f := R5) Y ZL (.cons (cvs (ov Y)<|Zj Y) Y (.cons (.b Y) .nil)<|.cons (cvs (ov Y)<|Zj Y) Y (.cons (.b Y) .nil) .nil) Y Y Y)<|Ra Y<|Za<|I1 (fun out=>⟨[(3, .own 0 out.length)], [some ⟨5, List.map R5 out⟩]⟩) h (fun h=>?_) fun out h=>?_
 ·
  refine K2 0 3 Y<|Tr<|Ra Y<|Za<|Ze<|?_
  obtain ⟨r1, hl1, ho1⟩ := QP h
  refine L2 (fun out2 shift=>⟨[(0, .int .i64 sequence), (3, .own 0 out2.length), (4, .int .i64 shift)], [some ⟨5, List.map R5 out2⟩]⟩) hl1 (ES [some 0]) fun n1 out2 shift h=>?_
  unfold Zbq at h
  refine Zf<|Tr<|Rm Y<|R2 Zh1 Y<|Za<|K4 0 3 4 9 Y<|If h Y (fun h=>?_) fun h=>?_
  ·
   exact Zh<|Zf<|Ze<|K3 0 3 4 Y<|Zq<|Rm Y<|Rm Y<|Rm Y<|bE h fun q h_q h=>Rq Y (Zao (ov Y) (ov Y) h_q)<|Rq Y (Qe (ov Y) tI3 tI5 Y)<|R_q (.sl 5<|List.map R5 ([(u8 q)] : List Int)) Y (XX ZL (.cons (cvs (ov Y)<|Zj Y) Y (.cons (.b Y) .nil) .nil) Y Y)<|bE h fun l h_l h=>Rx Y (Xg (ov Y) (Qt (ov Y) tZ_5) ZL Y Y Y (fun _=>Zb Y) Y h_l)<|Ra Y<|Za<|K3 0 3 4 Y<|Zq<|Rm Y<|R2 Zac Y<|Ra Y<|Za<|⟨_, h, ES [some 0]⟩
  ·
   refine ZD<|?_
   replace h := lx h ▸ ho1
   exact ⟨_, h, ES [some 0]⟩
 ·
  refine I1 (fun out3=>⟨[(3, .own 0 out3.length)], [some ⟨5, List.map R5 out3⟩]⟩) h (fun h=>?_) fun out3 h=>?_
  ·
   refine Tr<|Rm Y<|bE h fun u h_u h=>Rq Y (ZlJ (ov Y) Y Y ZL (oi<|ov Y) (oi<|ov Y) h_u)<|Rq Y (ZgE (ov Y) Y (List.length_map ..) ZL)<|Rm Y<|Za<|Ze<|?_
   obtain ⟨r2, hl2, ho2⟩ := QP h
   refine Zlr (τ := Option (List Int)) _ (fun b s=>Option.elim b (t2 (fun out4 i=>(⟨[(3, .own 0 out4.length), (20, .osl 0 out4.length (Int.toNat 2) (Int.toNat (6 - 2))), (21, .int .i64 ((Int.toNat (6 - 2) : Nat) : Int)), (22, .int .i64 i)], [some ⟨5, List.map R5 out4⟩]⟩ : St)) s) fun old2=>t2 (fun out4 i=>(⟨[(3, .own 1 out4.length), (20, .osl 0 old2.length (Int.toNat 2) (Int.toNat (6 - 2))), (21, .int .i64 ((Int.toNat (6 - 2) : Nat) : Int)), (22, .int .i64 i)], [some ⟨5, List.map R5 old2⟩, some ⟨5, List.map R5 out4⟩]⟩ : St)) s) (fun b s => ∃ tl, Option.getD b s.1 = out ++ tl) none _ hl2 ZkA (Ent.sel [some 0] (sr 3 Y (.own _ Y)<|sr 20 Y (.osl _ _ _ Y)<|sd 21 Y Y<|sd 22 Y Y sn) (.cons Y (roM D5) .nil) Y Y) fun b2 n2 s2 hC h=>?_
   obtain ⟨out4, i⟩ := s2
   replace h := t2i h
   unfold Zbj at h
   rcases b2 with _ | old2
   ·
    replace hC : ∃ tl, out4 = out ++ tl := hC
    show T _ _ ⟨[(3, .own 0 out4.length), (20, .osl 0 out4.length (Int.toNat 2) (Int.toNat (6 - 2))), (21, .int .i64 ((Int.toNat (6 - 2) : Nat) : Int)), (22, .int .i64 i)], [some ⟨5, List.map R5 out4⟩]⟩ _
    refine Tr<|R2 ZJ Y<|Za<|Zf<|If h Y (fun h=>?_) fun h=>?_
    ·
     refine Zh<|Zf<|Ze<|K4 3 20 21 22 Y<|Tr<|bE h fun u2 h_u2 h=>bE h fun x2 h_x2 h=>?_
     have h_x2P := ZjY hC h_x2
     refine Rq Y (Zf8 (ov Y) (ov Y) ZL Y Y (Zf7 h_u).1 h_u2 h_x2P)<|Rq Y (ZU (ov Y) Y Y h_x2P tS5 Y)<|Ra Y<|Za<|K5 3 6 20 21 22 Y<|Zq<|Rm Y<|Rm Y<|R1 Zj2 Y<|R_q (.sl 5<|List.map R5 ([(ZeH .u8 255 x2)] : List Int)) Y (XX ZL (.cons (cvs (ov Y)<|Zj Y) Y (.cons (.b Y) .nil) .nil) Y Y)<|bE h fun l2 h_l2 h=>Zlh (f := R5) (tp := 20) (ys := ([(ZeH .u8 255 x2)] : List Int)) Y (ov Y) (Qt (ov Y) tZ_5) ZL Y Y Y (fun _=>Zb Y) Y (fun _=>nsR Y) h_l2 Y ?_ ?_
     ·
      exact Ra Y<|Za<|K4 3 20 21 22 Y<|Zq<|R2 ZI Y<|Rm Y<|Za<|⟨none, (l2, (i64 (i + 1))), Zls hC h_l2, h, Ent.sel [some 0] (sr 3 Y (.own _ Y) <| sr 20 Y (.osl _ _ _ Y) <| sd 21 Y Y <| sd 22 Y Y <| sn) (.cons Y (roM D5) <| .nil) Y Y⟩
     ·
      exact Ra Y<|Za<|K4 3 20 21 22 Y<|Zq<|R2 ZI Y<|Rm Y<|Za<|⟨some out4, (l2, (i64 (i + 1))), hC, h, Ent.sel [some 0, some 1] (sr 3 Y (.own _ Y) <| sr 20 Y (.osl _ _ _ Y) <| sd 21 Y Y <| sd 22 Y Y <| sn) (.cons Y (roM D5) <| .cons Y (roM D5) <| .nil) Y Y⟩
    ·
     refine ZD<|?_
     replace h := lx h ▸ ho2
     exact ⟨_, h, ES [some 0]⟩
   ·
    replace hC : ∃ tl, old2 = out ++ tl := hC
    show T _ _ ⟨[(3, .own 1 out4.length), (20, .osl 0 old2.length (Int.toNat 2) (Int.toNat (6 - 2))), (21, .int .i64 ((Int.toNat (6 - 2) : Nat) : Int)), (22, .int .i64 i)], [some ⟨5, List.map R5 old2⟩, some ⟨5, List.map R5 out4⟩]⟩ _
    refine Tr<|R2 ZJ Y<|Za<|Zf<|If h Y (fun h=>?_) fun h=>?_
    ·
     refine Zh<|Zf<|Ze<|K4 3 20 21 22 Y<|Tr<|bE h fun u2 h_u2 h=>bE h fun x2 h_x2 h=>?_
     have h_x2P := ZjY hC h_x2
     exact Rq Y (Zf8 (ov Y) (ov Y) ZL Y Y (Zf7 h_u).1 h_u2 h_x2P)<|Rq Y (ZU (ov Y) Y Y h_x2P tS5 Y)<|Ra Y<|Za<|K5 3 6 20 21 22 Y<|Zq<|Rm Y<|Rm Y<|R1 Zj2 Y<|R_q (.sl 5<|List.map R5 ([(ZeH .u8 255 x2)] : List Int)) Y (XX ZL (.cons (cvs (ov Y)<|Zj Y) Y (.cons (.b Y) .nil) .nil) Y Y)<|bE h fun l2 h_l2 h=>Rx Y (Xg (ov Y) (Qt (ov Y) tZ_5) ZL Y Y Y (fun _=>Zb Y) Y h_l2)<|Ra Y<|Za<|K4 3 20 21 22 Y<|Zq<|R2 ZI Y<|Rm Y<|Za<|⟨some old2, (l2, (i64 (i + 1))), hC, h, Ent.sel [some 0, some 1] (sr 3 Y (.own _ Y) <| sr 20 Y (.osl _ _ _ Y) <| sd 21 Y Y <| sd 22 Y Y <| sn) (.cons Y (roM D5) <| .cons Y (roM D5) <| .nil) Y Y⟩
    ·
     refine ZD<|?_
     replace h := lx h ▸ ho2
     exact ⟨_, h, ES [some 1]⟩
  ·
   refine Tr<|Rm Y<|Ra Y<|Za<|?_
   obtain rfl := rt h
   exact Zn (ZN Y (.one<|.tmp Y<|View.ownM Y Y D5))
theorem Zdd {s1 : List Int} {s2 : List Int} {r : Bool} (h : QM s1 s2 = some r) :
 CSpec Tryz.prog gl0 72 [.sl 5 (List.map R5 s1), .sl 5 (List.map R5 s2)] (.bool r) := by
 unfold QM at h
 replace h := Z5 h
 refine So Tryz.func72 Y fun w0 A=>Tr<|Ra Y<|Za<|Zf<|K2 0 1 Y<|Tr<|Rm Y<|Rl tZ_5 ZL Y<|Rm Y<|Rl tZ_5 ZL Y<|R2 Jf Y<|Za<|K3 0 1 10 Y<|If h Y (fun h=>?_) fun h=>?_
 ·
  refine K0<|Tr<|Ra Y<|Za<|?_
  obtain rfl := rt h
  exact Zn (ZN Y (.one<|rb Y))
 ·
  refine Zh<|J0 (fun j => (.inr j)) ⟨[], []⟩ h (fun h=>?_) fun h=>?_
  ·
   refine K2 0 1 Y<|Tr<|Rm Y<|Rl tZ_5 ZL Y<|Rm Y<|Za<|Ze<|?_
   obtain ⟨r1, hl1, ho1⟩ := QP h
   refine L1 (fun i=>⟨[(0, .sl 5 (List.map R5 s1)), (1, .sl 5 (List.map R5 s2)), (12, .int .i64 (s1.length : Int)), (13, .int .i64 i)], []⟩) hl1 (ES []) fun n1 i h=>?_
   unfold QV at h
   refine Tr<|R2 ZJ Y<|Za<|Zf<|If h Y (fun h=>?_) fun h=>?_
   ·
    refine Zh<|Zf<|Ze<|K4 0 1 12 13 Y<|Tr<|Rm Y<|Ra Y<|Za<|Zf<|K5 0 1 5 12 13 Y<|Qm (cw := md0) (by kernel_rfl)<|D1 0 Zc Y<|D1 1 Zc Y<|bE h fun x h_x h=>Dq 2 Y (Qo (ov Y) (ov Y) ZL h_x)<|Dq 3 Y (Zi (ov Y) tS5 Y)<|D1 4 Zc Y<|D1 5 Zc Y<|bE h fun x2 h_x2 h=>Dq 6 Y (Qo (ov Y) (ov Y) ZL h_x2)<|Dq 7 Y (Zi (ov Y) tS5 Y)<|D2 8 Jf Y<|Dd<|K5 0 1 12 13 24 Y<|If h Y (fun h=>?_) fun h=>?_
    ·
     refine K0<|Tr<|Ra Y<|Za<|?_
     replace h := lx h ▸ ho1
     obtain rfl := rt h
     exact Zn (ZN Y (.one<|rb Y))
    ·
     exact Zh<|K4 0 1 12 13 Y<|Zq<|R2 ZI Y<|Rm Y<|Za<|⟨_, h, ES []⟩
   ·
    refine ZD<|?_
    replace h := lx h ▸ ho1
    exact ⟨(), h, ES []⟩
  ·
   replace h := elr h
   replace h := t0i h
   refine Tr<|Ra Y<|Za<|?_
   obtain rfl := rt h
   exact Zn (ZN Y (.one<|rb Y))
theorem Zbu {s : List Int} {r : Int × Bool × Bool} (h : J7 s = some r) :
 CSpec Tryz.prog gl0 37 [.sl 5 (List.map R5 s)] (.tuple [.int .i64 r.1, .bool r.2.1, .bool r.2.2]) := by
 unfold J7 at h
 replace h := Z5 h
 refine So Tryz.func37 Y fun w0 A=>Tr<|Ra Y<|Ra Y<|Ra Y<|Za<|Zf<|K1 0 Y<|Tr<|Rm Y<|Rl tZ_5 ZL Y<|R2 ZJ Y<|Za<|K2 0 9 Y<|If h Y (fun h=>?_) fun h=>?_
 ·
  refine K0<|Tr<|Ra Y<|Ra Y<|Ra Y<|Za<|?_
  obtain rfl := rt h
  exact Zn (ZN Y (.three (rb Y) (rb Y)<|rb Y))
 ·
  refine Zh<|K1 0 Y<|Tr<|Rm Y<|bE h fun l h_l h=>Rq Y (ZdH (ov Y) ZL on (oi<|ov Y) h_l)<|bE h fun v h_v h=>Rq Y (ZjB (f := C5) (ov Y) ZhX tZ_5 Y h_v)<|Ra Y<|Za<|Zf<|K1 5 Y<|Qm (cw := md0) (by kernel_rfl)<|D1 0 Zc Y<|D1 1 ZC Y<|bE h fun x h_x h=>Dq 2 Y (QS (ov Y) (ov Y) ZhX h_x)<|Dq 3 Y (Zi (ov Y) tS5<|Qx<|Xw (o := 0) (o' := ((Int.toNat 2) * 1)) (Zs arL)<|Xs h_x)<|Dq 4 Y (Qe (ov Y) tI5 tI3 Y)<|bE h fun q h_q h=>Dq 5 Y (ZdZ (ov Y) (ov Y) h_q)<|D1 6 Zc Y<|D1 7 ZC Y<|bE h fun x2 h_x2 h=>Dq 8 Y (QS (ov Y) (ov Y) ZhX h_x2)<|Dq 9 Y (Zi (ov Y) tS5<|Qx<|Xw (o := 0) (o' := ((Int.toNat 3) * 1)) (Zs arL)<|Xs h_x2)<|Dq 10 Y (Qe (ov Y) tI5 tI3 Y)<|bE h fun q2 h_q2 h=>Dq 11 Y (ZdZ (ov Y) (ov Y) h_q2)<|D2 12 Zeo Y<|D1 13 Zc Y<|D1 14 ZC Y<|bE h fun x3 h_x3 h=>Dq 15 Y (QS (ov Y) (ov Y) ZhX h_x3)<|Dq 16 Y (Zi (ov Y) tS5<|Qx<|Xw (o := 0) (o' := ((Int.toNat 4) * 1)) (Zs arL)<|Xs h_x3)<|Dq 17 Y (Qe (ov Y) tI5 tI3 Y)<|bE h fun q3 h_q3 h=>Dq 18 Y (ZdZ (ov Y) (ov Y) h_q3)<|D2 19 Zeo Y<|D1 20 Zc Y<|D1 21 ZC Y<|bE h fun x4 h_x4 h=>Dq 22 Y (QS (ov Y) (ov Y) ZhX h_x4)<|Dq 23 Y (Zi (ov Y) tS5<|Qx<|Xw (o := 0) (o' := ((Int.toNat 5) * 1)) (Zs arL)<|Xs h_x4)<|Dq 24 Y (Qe (ov Y) tI5 tI3 Y)<|D2 25 Zeo Y<|D1 26 Qh Y<|Dd<|Zf<|Zf<|K2 5 6 Y<|Qm (cw := md0) (by kernel_rfl)<|D1 0 Zc Y<|bE h fun y h_y h=>Dq 1 Y (Zr (Z3 h_y)<|.cons (ov Y) (.b Y)<|.cons (ov Y) (.b Y)<|.cons (ov Y) (.b Y) .nil)<|D1 2 XW Y<|D1 3 Zc Y<|Dq 4 Y (.guarded ((!y) == false) Y Y Y Y fun h => Zc<|ov Y)<|Dq 5 Y (.guarded ((!y) == false) Y Y Y Y fun h => ZC<|ow Y h)<|bE h fun l2 h_l2 h=>Dq 6 Y (.guarded ((!y) == false) Y Y Y Y fun h => Zj5 (f := C5) (ow Y h) ZhX tZ_5 (Zs arL) Y on (oi<|ov Y)<|gdT h_l2 h)<|Dq 7 Y (.guarded ((!y) == false) Y Y Y Y fun h => Zc<|ov Y)<|bE h fun y2 h_y2 h=>Dq 8 Y (.guarded ((!y) == false) Y Y Y Y fun h => Zr (ZeZ<|gdT h_y2 h)<|.cons (ow Y h) (.b Y) .nil)<|bE h fun y3 h_y3 h=>Dq 9 Y (.guarded ((!y) == false) Y Y Y Y fun h => Zr (Zdd<|gdT h_y3 h)<|.cons (ow Y h) (.b Y)<|.cons (ow Y h) (.b Y) .nil)<|Dq 10 Y (.guarded ((!y) == false) Y Y Y Y fun h => XW<|ow Y h)<|Dq 11 Y (Zdw (ov Y) fun hp=>ow Y<|gF hp)<|Dd<|K3 5 6 50 Y<|If h Y (fun h=>?_) fun h=>?_
  ·
   refine K0<|Tr<|Ra Y<|Ra Y<|Ra Y<|Za<|?_
   obtain rfl := rt h
   exact Zn (ZN Y (.three (rb Y) (rb Y)<|rb Y))
  ·
   refine Zh<|Zf<|K2 5 6 Y<|Qm (cw := md0) (by kernel_rfl)<|D1 0 Zc Y<|D1 1 Zc Y<|D1 2 ZC Y<|bE h fun x5 h_x5 h=>Dq 3 Y (QS (ov Y) (ov Y) ZhX h_x5)<|Dq 4 Y (Zi (ov Y) tS5<|Qx<|Xw (o := 0) (o' := ((Int.toNat 10) * 1)) (Zs arL)<|Xs h_x5)<|D2 5 Jf Y<|D1 6 Qh Y<|D1 7 Qh Y<|D1 8 Qh Y<|Dd<|?_
   obtain rfl := rt h
   exact Zn (ZN Y (.three (rb Y) (rb Y)<|rb Y))
theorem Xy {data : List Int} {a : Int} {b : Int} {cmp : Int → Int → Option Int} {r : (List Int)} {cmp_f : FuncId} {cmp_c : List AV} (cmp_d : cmp_c.all datB = true) (cmp_h : ∀ (z0 : Int) (z1 : Int) z, cmp z0 z1 = some z → CSpec Tryz.prog gl0 cmp_f ([.int .i64 z0, .int .i64 z1] ++ cmp_c) (.int .i64 z)) (h : Zz data a b cmp = some r) :
 GSpec Tryz.prog gl0 138 [.own 0 data.length, .int .i64 a, .int .i64 b, .fn cmp_f cmp_c] [some ⟨3, List.map R3 data⟩] (.tuple []) [some ⟨3, List.map R3 r⟩] := by
 unfold Zz at h
 replace h := Z5 h
 refine Z1 (by kernel_rfl) Tryz.func138 Y Y<|?_
 intro w0 A W φ0
 refine Tr<|Rm Y<|R2 ZI Y<|Ra Y<|Za<|Ze<|?_
 obtain ⟨r1, hl1, ho1⟩ := QP h
 refine L2 (fun o i=>⟨[(0, .own 0 o.length), (1, .int .i64 a), (2, .int .i64 b), (3, .fn cmp_f cmp_c), (8, .int .i64 i)], [some ⟨3, List.map R3 o⟩]⟩) hl1 (ES [some 0]<|sr 0 Y (.own _ Y)<|sd 1 Y Y<|sd 2 Y Y<|sr 3 Y (rFn<|rld cmp_d)<|sd 8 Y Y sn) fun n1 o i h=>?_
 unfold ZB at h
 refine Zf<|Tr<|Rm Y<|Rm Y<|R2 ZJ Y<|Za<|K6 0 1 2 3 8 14 Y<|If h Y (fun h=>?_) fun h=>?_
 ·
  refine Zh<|I1 (fun o2=>⟨[(0, .own 0 o2.length), (1, .int .i64 a), (2, .int .i64 b), (3, .fn cmp_f cmp_c), (8, .int .i64 i)], [some ⟨3, List.map R3 o2⟩]⟩) h (fun h=>?_) fun o2 h=>?_
  ·
   refine Ze<|K5 0 1 2 3 8 Y<|Tr<|Rm Y<|Ra Y<|Za<|Ze<|?_
   obtain ⟨r2, hl2, ho2⟩ := QP h
   refine L2 (fun o3 j=>⟨[(0, .own 0 o3.length), (1, .int .i64 a), (2, .int .i64 b), (3, .fn cmp_f cmp_c), (8, .int .i64 i), (9, .int .i64 j)], [some ⟨3, List.map R3 o3⟩]⟩) hl2 (ES [some 0]<|sr 0 Y (.own _ Y)<|sd 1 Y Y<|sd 2 Y Y<|sr 3 Y (rFn<|rld cmp_d)<|sd 8 Y Y<|sd 9 Y Y sn) fun n2 o3 j h=>?_
   unfold ZA at h
   refine Zf<|Zf<|Qm (cw := md0) (by kernel_rfl)<|D1 0 Zc Y<|D1 1 Zc Y<|D2 2 JR Y<|D1 3 Zc Y<|Dq 4 Y (.guarded ((decide (a < j)) == true) Y Y Y Y fun h => Zc<|ov Y)<|Dq 5 Y (.guarded ((decide (a < j)) == true) Y Y Y Y fun h => Zc<|ov Y)<|Dq 6 Y (.guarded ((decide (a < j)) == true) Y Y Y Y fun h => Zc<|ov Y)<|bE h fun x h_x h=>Dq 7 Y (.guarded ((decide (a < j)) == true) Y Y Y Y fun h => ZY (ow Y h) (ow Y h) QK Y Y<|gdT h_x h)<|Dq 8 Y (.guarded ((decide (a < j)) == true) Y Y Y Y fun h => ZU (ow Y h) Y Y (gdT h_x h) tS3 Y)<|Dq 9 Y (.guarded ((decide (a < j)) == true) Y Y Y Y fun h => Zc<|ov Y)<|Dq 10 Y (.guarded ((decide (a < j)) == true) Y Y Y Y fun h => Zc<|ov Y)<|Dq 11 Y (.guarded ((decide (a < j)) == true) Y Y Y Y fun h => Ziy (ow Y h) (ov Y) Y)<|bE h fun x2 h_x2 h=>Dq 12 Y (.guarded ((decide (a < j)) == true) Y Y Y Y fun h => ZY (ow Y h) (ow Y h) QK Y Y<|gdT h_x2 h)<|Dq 13 Y (.guarded ((decide (a < j)) == true) Y Y Y Y fun h => ZU (ow Y h) Y Y (gdT h_x2 h) tS3 Y)<|bE h fun y h_y h=>Dq 14 Y (.guarded ((decide (a < j)) == true) Y Y Y Y fun h => Zd0 (ow Y h) cmp_d (cmp_h _ _ _<|gdT h_y h)<|.cons (ow Y h) (.b Y)<|.cons (ow Y h) (.b Y) .nil)<|Dq 15 Y (.guarded ((decide (a < j)) == true) Y Y Y Y fun h => ZJ (ow Y h)<|ov Y)<|Dq 16 Y (Zai (ov Y) fun hp=>ow Y<|gT hp)<|Dd<|K7 0 1 2 3 8 9 34 Y<|If h Y (fun h=>?_) fun h=>?_
   ·
    exact Zh<|Zf<|Ze<|K6 0 1 2 3 8 9 Y<|Qm (cw := md0) (by kernel_rfl)<|D1 0 Zc Y<|D1 1 Zc Y<|D1 5 Zc Y<|D1 6 Zc Y<|D2 7 Zac Y<|bE h fun x3 h_x3 h=>Dq 8 Y (ZY (ov Y) (ov Y) QK Y Y h_x3)<|Dq 9 Y (ZU (ov Y) Y Y h_x3 tS3 Y)<|D1 10 Zc Y<|D1 11 Zc Y<|bE h fun x4 h_x4 h=>Dq 12 Y (ZY (ov Y) (ov Y) QK Y Y h_x4)<|Dq 13 Y (ZU (ov Y) Y Y h_x4 tS3 Y)<|bE h fun x5 h_x5 h=>Dq 14 Y (ZY (ov Y) (ov Y) QK Y Y h_x5)<|ZM 2 _ Y (by kernel_rfl) Y Y (fun hp'=>Zc<|ov Y)<|ZM 3 _ Y (by kernel_rfl) Y Y (fun hp'=>Zc<|ov Y)<|ZM 4 _ Y (by kernel_rfl) Y Y (fun hp'=>Ziy (ov Y) (ov Y) Y)<|Do 15 Y (Qu (u' := x3) (ov Y) (ov Y) (Zd tS3) Y Y h_x5 Y (Zb Y) Y)<|bE h fun x6 h_x6 h=>Dq 16 Y (ZY (ov Y) (ov Y) QK Y ((List.length_set ..).trans Y) h_x6)<|Do 17 Y (Qu (u' := x4) (ov Y) (ov Y) (Zd tS3) Y ((List.length_set ..).trans Y) h_x6 Y (Zb Y) Y)<|Dd<|K6 0 1 2 3 8 9 Y<|Zq<|Rm Y<|R2 Zac Y<|Ra Y<|Za<|⟨_, h, ES [some 0]<|sr 0 Y (Zcu (Eq.symm<|(List.length_set ..).trans<|(List.length_set ..).trans Y) Y)<|sd 1 Y Y<|sd 2 Y Y<|sr 3 Y (rFn<|rld cmp_d)<|sd 8 Y Y<|sd 9 Y Y sn⟩
   ·
    refine ZD<|?_
    replace h := lx h ▸ ho2
    exact ⟨_, h, ES [some 0]<|sr 0 Y (.own _ Y)<|sd 1 Y Y<|sd 2 Y Y<|sr 3 Y (rFn<|rld cmp_d)<|sd 8 Y Y sn⟩
  ·
   exact Zq<|Rm Y<|R2 ZI Y<|Ra Y<|Za<|⟨_, h, ES [some 0]<|sr 0 Y (.own _ Y)<|sd 1 Y Y<|sd 2 Y Y<|sr 3 Y (rFn<|rld cmp_d)<|sd 8 Y Y sn⟩
 ·
  refine ZD<|?_
  replace h := lx h ▸ ho1
  obtain rfl := rt h
  exact Zft [some 0] Y .nil (.cons Y (roM D3) .nil) Y Y<|Qr rln
theorem QY {data : List Int} {a : Int} {b : Int} {n : Int} {cmp : Int → Int → Option Int} {r : (List Int)} {cmp_f : FuncId} {cmp_c : List AV} (cmp_d : cmp_c.all datB = true) (cmp_h : ∀ (z0 : Int) (z1 : Int) z, cmp z0 z1 = some z → CSpec Tryz.prog gl0 cmp_f ([.int .i64 z0, .int .i64 z1] ++ cmp_c) (.int .i64 z)) (h : ZS data a b n cmp = some r) :
 GSpec Tryz.prog gl0 142 [.own 0 data.length, .int .i64 a, .int .i64 b, .int .i64 n, .fn cmp_f cmp_c] [some ⟨3, List.map R3 data⟩] (.tuple []) [some ⟨3, List.map R3 r⟩] := by
 unfold ZS at h
 replace h := Z5 h
 refine Z1 (by kernel_rfl) Tryz.func142 Y Y<|?_
 intro w0 A W φ0
 refine K4 0 1 2 3 Y<|Tr<|Ra Y<|Za<|Ze<|?_
 obtain ⟨r1, hl1, ho1⟩ := QP h
 refine L2 (fun o i=>⟨[(0, .own 0 o.length), (1, .int .i64 a), (2, .int .i64 b), (3, .int .i64 n), (10, .int .i64 i)], [some ⟨3, List.map R3 o⟩]⟩) hl1 (ES [some 0]) fun n1 o i h=>?_
 unfold Z4 at h
 refine Zf<|Tr<|Rm Y<|Rm Y<|R2 ZJ Y<|Za<|K6 0 1 2 3 10 13 Y<|If h Y (fun h=>?_) fun h=>?_
 ·
  exact Zh<|Zf<|Ze<|K5 0 1 2 3 10 Y<|Qm (cw := md0) (by kernel_rfl)<|D1 0 Zc Y<|D1 1 Zc Y<|D1 2 Zc Y<|D2 3 ZI Y<|D1 8 Zc Y<|D1 9 Zc Y<|D1 10 Zc Y<|D2 11 ZI Y<|bE h fun x h_x h=>Dq 12 Y (ZY (ov Y) (ov Y) QK Y Y h_x)<|Dq 13 Y (ZU (ov Y) Y Y h_x tS3 Y)<|D1 14 Zc Y<|D1 15 Zc Y<|D1 16 Zc Y<|D2 17 ZI Y<|bE h fun x2 h_x2 h=>Dq 18 Y (ZY (ov Y) (ov Y) QK Y Y h_x2)<|Dq 19 Y (ZU (ov Y) Y Y h_x2 tS3 Y)<|bE h fun x3 h_x3 h=>Dq 20 Y (ZY (ov Y) (ov Y) QK Y Y h_x3)<|ZM 4 _ Y (by kernel_rfl) Y Y (fun hp'=>Zc<|ov Y)<|ZM 5 _ Y (by kernel_rfl) Y Y (fun hp'=>Zc<|ov Y)<|ZM 6 _ Y (by kernel_rfl) Y Y (fun hp'=>Zc<|ov Y)<|ZM 7 _ Y (by kernel_rfl) Y Y (fun hp'=>Ziw (ov Y) (ov Y) Y)<|Do 21 Y (Qu (u' := x) (ov Y) (ov Y) (Zd tS3) Y Y h_x3 Y (Zb Y) Y)<|bE h fun x4 h_x4 h=>Dq 22 Y (ZY (ov Y) (ov Y) QK Y ((List.length_set ..).trans Y) h_x4)<|Do 23 Y (Qu (u' := x2) (ov Y) (ov Y) (Zd tS3) Y ((List.length_set ..).trans Y) h_x4 Y (Zb Y) Y)<|Dd<|K5 0 1 2 3 10 Y<|Zq<|Rm Y<|R2 ZI Y<|Ra Y<|Za<|⟨_, h, ES [some 0]<|sr 0 Y (Zcu (Eq.symm<|(List.length_set ..).trans<|(List.length_set ..).trans Y) Y)<|sd 1 Y Y<|sd 2 Y Y<|sd 3 Y Y<|sd 10 Y Y sn⟩
 ·
  refine ZD<|?_
  replace h := lx h ▸ ho1
  obtain rfl := rt h
  exact Zft [some 0] Y .nil (.cons Y (roM D3) .nil) Y Y<|Qr rln
theorem ZcE {data : List Int} {a : Int} {m : Int} {b : Int} {cmp : Int → Int → Option Int} {r : (List Int)} {cmp_f : FuncId} {cmp_c : List AV} (cmp_d : cmp_c.all datB = true) (cmp_h : ∀ (z0 : Int) (z1 : Int) z, cmp z0 z1 = some z → CSpec Tryz.prog gl0 cmp_f ([.int .i64 z0, .int .i64 z1] ++ cmp_c) (.int .i64 z)) (h : QG data a m b cmp = some r) :
 GSpec Tryz.prog gl0 141 [.own 0 data.length, .int .i64 a, .int .i64 m, .int .i64 b, .fn cmp_f cmp_c] [some ⟨3, List.map R3 data⟩] (.tuple []) [some ⟨3, List.map R3 r⟩] := by
 unfold QG at h
 replace h := Z5 h
 refine Z1 (by kernel_rfl) Tryz.func141 Y Y<|?_
 intro w0 A W φ0
 refine Tr<|Rm Y<|Rm Y<|R2 Zac Y<|Ra Y<|Za<|K5 0 2 3 4 10 Y<|Tr<|Rm Y<|Rm Y<|R2 Zac Y<|Ra Y<|Za<|I2 (fun o i=>⟨[(0, .own 0 o.length), (2, .int .i64 m), (4, .fn cmp_f cmp_c), (10, .int .i64 i)], [some ⟨3, List.map R3 o⟩]⟩) h (fun h=>?_) fun o i h=>?_
 ·
  refine Ze<|?_
  obtain ⟨r1, hl1, ho1⟩ := QP h
  refine L3 (fun o2 i2 j=>⟨[(0, .own 0 o2.length), (2, .int .i64 m), (4, .fn cmp_f cmp_c), (10, .int .i64 i2), (11, .int .i64 j)], [some ⟨3, List.map R3 o2⟩]⟩) hl1 (ES [some 0]<|sr 0 Y (.own _ Y)<|sd 2 Y Y<|sr 4 Y (rFn<|rld cmp_d)<|sd 10 Y Y<|sd 11 Y Y sn) fun n1 o2 i2 j h=>?_
  unfold Qn at h
  refine Zf<|Tr<|Rm Y<|Rm Y<|R2 Jf Y<|Za<|K6 0 2 4 10 11 20 Y<|If h Y (fun h=>?_) fun h=>?_
  ·
   refine Zh<|Ze<|K5 0 2 4 10 11 Y<|Tr<|Rm Y<|Rm Y<|R2 JR Y<|Za<|K6 0 2 4 10 11 23 Y<|If h Y (fun h=>?_) fun h=>?_
   ·
    exact K5 0 2 4 10 11 Y<|Tr<|Rm Y<|Rm Y<|Rm Y<|R2 Zac Y<|Rm Y<|Rm Y<|Rm Y<|bE h fun y h_y h=>Rx Y (Zv [0] (QY cmp_d cmp_h h_y) (.cons (ov Y) (.own _ Y)<|.cons (ov Y) (.dat Y)<|.cons (ov Y) (.dat Y)<|.cons (ov Y) (.dat Y)<|.cons (ov Y) (rFn<|rld cmp_d) .nil) (.cons Y (roM D3) .nil) Y (.lent 0 (.inl Y) Y (roM D3) .nil) Y Y<|Qr<|rld Y)<|Za<|K5 0 2 4 10 11 Y<|Zq<|Rm Y<|Rm Y<|R2 Zac Y<|Ra Y<|Za<|⟨_, h, ES [some 0]<|sr 0 Y (Zcu (Eq.symm<|Z0 h_y) Y)<|sd 2 Y Y<|sr 4 Y (rFn<|rld cmp_d)<|sd 10 Y Y<|sd 11 Y Y sn⟩
   ·
    exact K5 0 2 4 10 11 Y<|Tr<|Rm Y<|Rm Y<|Rm Y<|R2 Zac Y<|Rm Y<|Rm Y<|R2 ZI Y<|Rm Y<|R2 Zac Y<|Rm Y<|Rm Y<|bE h fun y2 h_y2 h=>Rx Y (Zv [0] (QY cmp_d cmp_h h_y2) (.cons (ov Y) (.own _ Y)<|.cons (ov Y) (.dat Y)<|.cons (ov Y) (.dat Y)<|.cons (ov Y) (.dat Y)<|.cons (ov Y) (rFn<|rld cmp_d) .nil) (.cons Y (roM D3) .nil) Y (.lent 0 (.inl Y) Y (roM D3) .nil) Y Y<|Qr<|rld Y)<|Za<|K5 0 2 4 10 11 Y<|Zq<|Rm Y<|Rm Y<|R2 Zac Y<|Ra Y<|Za<|⟨_, h, ES [some 0]<|sr 0 Y (Zcu (Eq.symm<|Z0 h_y2) Y)<|sd 2 Y Y<|sr 4 Y (rFn<|rld cmp_d)<|sd 10 Y Y<|sd 11 Y Y sn⟩
  ·
   refine ZD<|?_
   replace h := lx h ▸ ho1
   exact ⟨_, h, ES [some 0]<|sr 0 Y (.own _ Y)<|sd 2 Y Y<|sr 4 Y (rFn<|rld cmp_d)<|sd 10 Y Y sn⟩
 ·
  refine Zq<|Rm Y<|Rm Y<|Rm Y<|R2 Zac Y<|Rm Y<|Rm Y<|Rm Y<|bE h fun y3 h_y3 h=>Rx Y (Zv [0] (QY cmp_d cmp_h h_y3) (.cons (ov Y) (.own _ Y)<|.cons (ov Y) (.dat Y)<|.cons (ov Y) (.dat Y)<|.cons (ov Y) (.dat Y)<|.cons (ov Y) (rFn<|rld cmp_d) .nil) (.cons Y (roM D3) .nil) Y (.lent 0 (.inl Y) Y (roM D3) .nil) Y Y<|Qr<|rld Y)<|Za<|?_
  obtain rfl := rt h
  exact Zft [some 0] Y .nil (.cons Y (roM D3) .nil) Y Y<|Qr rln
theorem ZbI {rec_ : List Int → Int → Int → Int → (Int → Int → Option Int) → Option (List Int)} {data : List Int} {a : Int} {m : Int} {b : Int} {cmp : Int → Int → Option Int} {r : (List Int)} {cmp_f : FuncId} {cmp_c : List AV} (cmp_d : cmp_c.all datB = true) (cmp_h : ∀ (z0 : Int) (z1 : Int) z, cmp z0 z1 = some z → CSpec Tryz.prog gl0 cmp_f ([.int .i64 z0, .int .i64 z1] ++ cmp_c) (.int .i64 z)) (ln_rec_ : ∀ {data : List Int} {a : Int} {m : Int} {b : Int} {cmp : Int → Int → Option Int} {r : (List Int)}, rec_ data a m b cmp = some r → r.length = data.length) (hrec : ∀ {data : List Int} {a : Int} {m : Int} {b : Int} {cmp : Int → Int → Option Int} {r : (List Int)} {cmp_f : FuncId} {cmp_c : List AV} (cmp_d : cmp_c.all datB = true) (cmp_h : ∀ (z0 : Int) (z1 : Int) z, cmp z0 z1 = some z → CSpec Tryz.prog gl0 cmp_f ([.int .i64 z0, .int .i64 z1] ++ cmp_c) (.int .i64 z)) (h : rec_ data a m b cmp = some r), GSpec Tryz.prog gl0 139 [.own 0 data.length, .int .i64 a, .int .i64 m, .int .i64 b, .fn cmp_f cmp_c] [some ⟨3, List.map R3 data⟩] (.tuple []) [some ⟨3, List.map R3 r⟩]) (h : Qi rec_ data a m b cmp = some r) :
 GSpec Tryz.prog gl0 139 [.own 0 data.length, .int .i64 a, .int .i64 m, .int .i64 b, .fn cmp_f cmp_c] [some ⟨3, List.map R3 data⟩] (.tuple []) [some ⟨3, List.map R3 r⟩] := by
 unfold Qi at h
 replace h := Z5 h
 refine Z1 (by kernel_rfl) Tryz.func139 Y Y<|?_
 intro w0 A W φ0
 refine Zf<|Tr<|Rm Y<|Rm Y<|R2 Zac Y<|R2 JG Y<|Za<|K6 0 1 2 3 4 28 Y<|If h Y (fun h=>?_) fun h=>?_
 ·
  refine K5 0 1 2 3 4 Y<|Tr<|Rm Y<|Ra Y<|Za<|K5 0 1 3 4 10 Y<|Tr<|Rm Y<|Ra Y<|Za<|I1 (fun i=>⟨[(0, .own 0 data.length), (1, .int .i64 a), (10, .int .i64 i)], [some ⟨3, List.map R3 data⟩]⟩) h (fun h=>?_) fun i h=>?_
  ·
   refine Ze<|?_
   obtain ⟨r1, hl1, ho1⟩ := QP h
   refine L2 (fun i2 j=>⟨[(0, .own 0 data.length), (1, .int .i64 a), (4, .fn cmp_f cmp_c), (10, .int .i64 i2), (11, .int .i64 j)], [some ⟨3, List.map R3 data⟩]⟩) hl1 (ES [some 0]<|sr 0 Y (.own _ Y)<|sd 1 Y Y<|sr 4 Y (rFn<|rld cmp_d)<|sd 10 Y Y<|sd 11 Y Y sn) fun n1 i2 j h=>?_
   unfold Jc at h
   refine Zf<|Tr<|Rm Y<|Rm Y<|R2 ZJ Y<|Za<|K6 0 1 4 10 11 33 Y<|If h Y (fun h=>?_) fun h=>?_
   ·
    refine Zh<|Ze<|K5 0 1 4 10 11 Y<|Tr<|Rm Y<|Rm Y<|R2 ZI Y<|Rq Y (Qe (ov Y) tI3 ZeT Y)<|bE h fun q h_q h=>Rq Y (Zao (ov Y) (ov Y) h_q)<|Rq Y (Qe (ov Y) ZeT tI3 Y)<|Ra Y<|Za<|Zf<|K6 0 1 4 10 11 12 Y<|Qm (cw := md0) (by kernel_rfl)<|D1 0 Zc Y<|D1 1 Zc Y<|D1 2 Zc Y<|bE h fun x h_x h=>Dq 3 Y (ZY (ov Y) (ov Y) QK Y Y h_x)<|Dq 4 Y (ZU (ov Y) Y Y h_x tS3 Y)<|D1 5 Zc Y<|D1 6 Zc Y<|bE h fun x2 h_x2 h=>Dq 7 Y (ZY (ov Y) (ov Y) QK Y Y h_x2)<|Dq 8 Y (ZU (ov Y) Y Y h_x2 tS3 Y)<|bE h fun y h_y h=>Dq 9 Y (Zd0 (ov Y) cmp_d (cmp_h _ _ _ h_y)<|.cons (ov Y) (.b Y)<|.cons (ov Y) (.b Y) .nil)<|D2 10 ZJ Y<|Dd<|K7 0 1 4 10 11 12 50 Y<|If h Y (fun h=>?_) fun h=>?_
    ·
     exact K6 0 1 4 10 11 12 Y<|Zq<|Rm Y<|R2 ZI Y<|Ra Y<|Za<|⟨_, h, ES [some 0]<|sr 0 Y (.own _ Y)<|sd 1 Y Y<|sr 4 Y (rFn<|rld cmp_d)<|sd 10 Y Y<|sd 11 Y Y sn⟩
    ·
     exact K6 0 1 4 10 11 12 Y<|Zq<|Rm Y<|Ra Y<|Za<|⟨_, h, ES [some 0]<|sr 0 Y (.own _ Y)<|sd 1 Y Y<|sr 4 Y (rFn<|rld cmp_d)<|sd 10 Y Y<|sd 11 Y Y sn⟩
   ·
    refine ZD<|?_
    replace h := lx h ▸ ho1
    exact ⟨_, h, ES [some 0]⟩
  ·
   refine I1 (fun o=>⟨[], [some ⟨3, List.map R3 o⟩]⟩) h (fun h=>?_) fun o h=>?_
   ·
    refine Tr<|Rm Y<|Ra Y<|Za<|Ze<|?_
    obtain ⟨r2, hl2, ho2⟩ := QP h
    refine L2 (fun o2 k=>⟨[(0, .own 0 o2.length), (10, .int .i64 i), (13, .int .i64 k)], [some ⟨3, List.map R3 o2⟩]⟩) hl2 (ES [some 0]) fun n2 o2 k h=>?_
    unfold Z9 at h
    refine Zf<|Tr<|Rm Y<|Rm Y<|R2 Zac Y<|R2 ZJ Y<|Za<|K4 0 10 13 58 Y<|If h Y (fun h=>?_) fun h=>?_
    ·
     exact Zh<|Zf<|Ze<|K3 0 10 13 Y<|Qm (cw := md0) (by kernel_rfl)<|D1 0 Zc Y<|D1 1 Zc Y<|D1 5 Zc Y<|D1 6 Zc Y<|D2 7 ZI Y<|bE h fun x3 h_x3 h=>Dq 8 Y (ZY (ov Y) (ov Y) QK Y Y h_x3)<|Dq 9 Y (ZU (ov Y) Y Y h_x3 tS3 Y)<|D1 10 Zc Y<|D1 11 Zc Y<|bE h fun x4 h_x4 h=>Dq 12 Y (ZY (ov Y) (ov Y) QK Y Y h_x4)<|Dq 13 Y (ZU (ov Y) Y Y h_x4 tS3 Y)<|bE h fun x5 h_x5 h=>Dq 14 Y (ZY (ov Y) (ov Y) QK Y Y h_x5)<|ZM 2 _ Y (by kernel_rfl) Y Y (fun hp'=>Zc<|ov Y)<|ZM 3 _ Y (by kernel_rfl) Y Y (fun hp'=>Zc<|ov Y)<|ZM 4 _ Y (by kernel_rfl) Y Y (fun hp'=>Ziw (ov Y) (ov Y) Y)<|Do 15 Y (Qu (u' := x3) (ov Y) (ov Y) (Zd tS3) Y Y h_x5 Y (Zb Y) Y)<|bE h fun x6 h_x6 h=>Dq 16 Y (ZY (ov Y) (ov Y) QK Y ((List.length_set ..).trans Y) h_x6)<|Do 17 Y (Qu (u' := x4) (ov Y) (ov Y) (Zd tS3) Y ((List.length_set ..).trans Y) h_x6 Y (Zb Y) Y)<|Dd<|K3 0 10 13 Y<|Zq<|Rm Y<|R2 ZI Y<|Ra Y<|Za<|⟨_, h, ES [some 0]<|sr 0 Y (Zcu (Eq.symm<|(List.length_set ..).trans<|(List.length_set ..).trans Y) Y)<|sd 10 Y Y<|sd 13 Y Y sn⟩
    ·
     refine ZD<|?_
     replace h := lx h ▸ ho2
     exact ⟨_, h, ES [some 0]⟩
   ·
    obtain rfl := rt h
    exact Zn<|XY [some 0] Y .nil (.cons Y (roM D3) .nil) Y Y<|Qr rln
 ·
  refine Zh<|Zf<|K5 0 1 2 3 4 Y<|Tr<|Rm Y<|Rm Y<|R2 Zac Y<|R2 JG Y<|Za<|K6 0 1 2 3 4 80 Y<|If h Y (fun h=>?_) fun h=>?_
  ·
   refine K4 0 1 2 4 Y<|Tr<|Rm Y<|Ra Y<|Za<|K4 0 2 4 14 Y<|Tr<|Rm Y<|Ra Y<|Za<|I1 (fun i3=>⟨[(0, .own 0 data.length), (2, .int .i64 m), (14, .int .i64 i3)], [some ⟨3, List.map R3 data⟩]⟩) h (fun h=>?_) fun i3 h=>?_
   ·
    refine Ze<|?_
    obtain ⟨r3, hl3, ho3⟩ := QP h
    refine L2 (fun i4 j2=>⟨[(0, .own 0 data.length), (2, .int .i64 m), (4, .fn cmp_f cmp_c), (14, .int .i64 i4), (15, .int .i64 j2)], [some ⟨3, List.map R3 data⟩]⟩) hl3 (ES [some 0]<|sr 0 Y (.own _ Y)<|sd 2 Y Y<|sr 4 Y (rFn<|rld cmp_d)<|sd 14 Y Y<|sd 15 Y Y sn) fun n3 i4 j2 h=>?_
    unfold Jd at h
    refine Zf<|Tr<|Rm Y<|Rm Y<|R2 ZJ Y<|Za<|K6 0 2 4 14 15 85 Y<|If h Y (fun h=>?_) fun h=>?_
    ·
     refine Zh<|Ze<|K5 0 2 4 14 15 Y<|Tr<|Rm Y<|Rm Y<|R2 ZI Y<|Rq Y (Qe (ov Y) tI3 ZeT Y)<|bE h fun q2 h_q2 h=>Rq Y (Zao (ov Y) (ov Y) h_q2)<|Rq Y (Qe (ov Y) ZeT tI3 Y)<|Ra Y<|Za<|Zf<|K6 0 2 4 14 15 16 Y<|Qm (cw := md0) (by kernel_rfl)<|D1 0 Zc Y<|D1 1 Zc Y<|D1 2 Zc Y<|bE h fun x7 h_x7 h=>Dq 3 Y (ZY (ov Y) (ov Y) QK Y Y h_x7)<|Dq 4 Y (ZU (ov Y) Y Y h_x7 tS3 Y)<|D1 5 Zc Y<|D1 6 Zc Y<|bE h fun x8 h_x8 h=>Dq 7 Y (ZY (ov Y) (ov Y) QK Y Y h_x8)<|Dq 8 Y (ZU (ov Y) Y Y h_x8 tS3 Y)<|bE h fun y2 h_y2 h=>Dq 9 Y (Zd0 (ov Y) cmp_d (cmp_h _ _ _ h_y2)<|.cons (ov Y) (.b Y)<|.cons (ov Y) (.b Y) .nil)<|D2 10 ZJ Y<|D1 11 XW Y<|Dd<|K7 0 2 4 14 15 16 103 Y<|If h Y (fun h=>?_) fun h=>?_
     ·
      exact K6 0 2 4 14 15 16 Y<|Zq<|Rm Y<|R2 ZI Y<|Ra Y<|Za<|⟨_, h, ES [some 0]<|sr 0 Y (.own _ Y)<|sd 2 Y Y<|sr 4 Y (rFn<|rld cmp_d)<|sd 14 Y Y<|sd 15 Y Y sn⟩
     ·
      exact K6 0 2 4 14 15 16 Y<|Zq<|Rm Y<|Ra Y<|Za<|⟨_, h, ES [some 0]<|sr 0 Y (.own _ Y)<|sd 2 Y Y<|sr 4 Y (rFn<|rld cmp_d)<|sd 14 Y Y<|sd 15 Y Y sn⟩
    ·
     refine ZD<|?_
     replace h := lx h ▸ ho3
     exact ⟨_, h, ES [some 0]⟩
   ·
    refine I1 (fun o3=>⟨[], [some ⟨3, List.map R3 o3⟩]⟩) h (fun h=>?_) fun o3 h=>?_
    ·
     refine Tr<|Rm Y<|Ra Y<|Za<|Ze<|?_
     obtain ⟨r4, hl4, ho4⟩ := QP h
     refine L2 (fun o4 k2=>⟨[(0, .own 0 o4.length), (14, .int .i64 i3), (17, .int .i64 k2)], [some ⟨3, List.map R3 o4⟩]⟩) hl4 (ES [some 0]) fun n4 o4 k2 h=>?_
     unfold Qc at h
     refine Zf<|Tr<|Rm Y<|Rm Y<|R2 JR Y<|Za<|K4 0 14 17 110 Y<|If h Y (fun h=>?_) fun h=>?_
     ·
      exact Zh<|Zf<|Ze<|K3 0 14 17 Y<|Qm (cw := md0) (by kernel_rfl)<|D1 0 Zc Y<|D1 1 Zc Y<|D1 5 Zc Y<|D1 6 Zc Y<|D2 7 Zac Y<|bE h fun x9 h_x9 h=>Dq 8 Y (ZY (ov Y) (ov Y) QK Y Y h_x9)<|Dq 9 Y (ZU (ov Y) Y Y h_x9 tS3 Y)<|D1 10 Zc Y<|D1 11 Zc Y<|bE h fun x10 h_x10 h=>Dq 12 Y (ZY (ov Y) (ov Y) QK Y Y h_x10)<|Dq 13 Y (ZU (ov Y) Y Y h_x10 tS3 Y)<|bE h fun x11 h_x11 h=>Dq 14 Y (ZY (ov Y) (ov Y) QK Y Y h_x11)<|ZM 2 _ Y (by kernel_rfl) Y Y (fun hp'=>Zc<|ov Y)<|ZM 3 _ Y (by kernel_rfl) Y Y (fun hp'=>Zc<|ov Y)<|ZM 4 _ Y (by kernel_rfl) Y Y (fun hp'=>Ziy (ov Y) (ov Y) Y)<|Do 15 Y (Qu (u' := x9) (ov Y) (ov Y) (Zd tS3) Y Y h_x11 Y (Zb Y) Y)<|bE h fun x12 h_x12 h=>Dq 16 Y (ZY (ov Y) (ov Y) QK Y ((List.length_set ..).trans Y) h_x12)<|Do 17 Y (Qu (u' := x10) (ov Y) (ov Y) (Zd tS3) Y ((List.length_set ..).trans Y) h_x12 Y (Zb Y) Y)<|Dd<|K3 0 14 17 Y<|Zq<|Rm Y<|R2 Zac Y<|Ra Y<|Za<|⟨_, h, ES [some 0]<|sr 0 Y (Zcu (Eq.symm<|(List.length_set ..).trans<|(List.length_set ..).trans Y) Y)<|sd 14 Y Y<|sd 17 Y Y sn⟩
     ·
      refine ZD<|?_
      replace h := lx h ▸ ho4
      exact ⟨_, h, ES [some 0]⟩
    ·
     obtain rfl := rt h
     exact Zn<|XY [some 0] Y .nil (.cons Y (roM D3) .nil) Y Y<|Qr rln
  ·
   refine Zh<|K5 0 1 2 3 4 Y<|Tr<|Rm Y<|Rm Y<|R2 ZI Y<|Rq Y (Qe (ov Y) tI3 ZeT Y)<|bE h fun q3 h_q3 h=>Rq Y (Zao (ov Y) (ov Y) h_q3)<|Rq Y (Qe (ov Y) ZeT tI3 Y)<|Ra Y<|Za<|K6 0 1 2 3 4 18 Y<|Tr<|Rm Y<|Rm Y<|R2 ZI Y<|Ra Y<|Za<|K7 0 1 2 3 4 18 19 Y<|Tr<|Ra Y<|Ra Y<|Za<|I2 (fun start r_=>⟨[(0, .own 0 data.length), (1, .int .i64 a), (2, .int .i64 m), (3, .int .i64 b), (4, .fn cmp_f cmp_c), (18, .int .i64 (i64 q3)), (19, .int .i64 (i64 ((i64 q3) + m))), (20, .int .i64 start), (21, .int .i64 r_)], [some ⟨3, List.map R3 data⟩]⟩) h (fun h=>?_) fun start r_ h=>?_
   ·
    refine K7 0 1 2 3 4 18 19 Y<|Tr<|Rm Y<|Rm Y<|R2 JR Y<|Za<|K8 0 1 2 3 4 18 19 140 Y<|If h Y (fun h=>?_) fun h=>?_
    ·
     exact K7 0 1 2 3 4 18 19 Y<|Tr<|Rm Y<|Rm Y<|R2 Zac Y<|Ra Y<|Za<|K8 0 1 2 3 4 18 19 20 Y<|Zq<|Rm Y<|Ra Y<|Za<|⟨_, h, ES [some 0]<|sr 0 Y (.own _ Y)<|sd 1 Y Y<|sd 2 Y Y<|sd 3 Y Y<|sr 4 Y (rFn<|rld cmp_d)<|sd 18 Y Y<|sd 19 Y Y<|sd 20 Y Y<|sd 21 Y Y sn⟩
    ·
     exact K7 0 1 2 3 4 18 19 Y<|Tr<|Rm Y<|Ra Y<|Za<|K8 0 1 2 3 4 18 19 20 Y<|Zq<|Rm Y<|Ra Y<|Za<|⟨_, h, ES [some 0]<|sr 0 Y (.own _ Y)<|sd 1 Y Y<|sd 2 Y Y<|sd 3 Y Y<|sr 4 Y (rFn<|rld cmp_d)<|sd 18 Y Y<|sd 19 Y Y<|sd 20 Y Y<|sd 21 Y Y sn⟩
   ·
    refine Tr<|Rm Y<|R2 Zac Y<|Ra Y<|Za<|I1 (fun start2=>⟨[(0, .own 0 data.length), (1, .int .i64 a), (2, .int .i64 m), (3, .int .i64 b), (4, .fn cmp_f cmp_c), (18, .int .i64 (i64 q3)), (19, .int .i64 (i64 ((i64 q3) + m))), (20, .int .i64 start2)], [some ⟨3, List.map R3 data⟩]⟩) h (fun h=>?_) fun start2 h=>?_
    ·
     refine Ze<|?_
     obtain ⟨r5, hl5, ho5⟩ := QP h
     refine L2 (fun start3 r_2=>⟨[(0, .own 0 data.length), (1, .int .i64 a), (2, .int .i64 m), (3, .int .i64 b), (4, .fn cmp_f cmp_c), (18, .int .i64 (i64 q3)), (19, .int .i64 (i64 ((i64 q3) + m))), (20, .int .i64 start3), (21, .int .i64 r_2), (22, .int .i64 (i64 ((i64 ((i64 q3) + m)) - 1)))], [some ⟨3, List.map R3 data⟩]⟩) hl5 (ES [some 0]<|sr 0 Y (.own _ Y)<|sd 1 Y Y<|sd 2 Y Y<|sd 3 Y Y<|sr 4 Y (rFn<|rld cmp_d)<|sd 18 Y Y<|sd 19 Y Y<|sd 20 Y Y<|sd 21 Y Y<|sd 22 Y Y sn) fun n5 start3 r_2 h=>?_
     unfold Je at h
     refine Zf<|Tr<|Rm Y<|Rm Y<|R2 ZJ Y<|Za<|K11 0 1 2 3 4 18 19 20 21 22 151 Y<|If h Y (fun h=>?_) fun h=>?_
     ·
      refine Zh<|Ze<|K10 0 1 2 3 4 18 19 20 21 22 Y<|Tr<|Rm Y<|Rm Y<|R2 ZI Y<|Rq Y (Qe (ov Y) tI3 ZeT Y)<|bE h fun q4 h_q4 h=>Rq Y (Zao (ov Y) (ov Y) h_q4)<|Rq Y (Qe (ov Y) ZeT tI3 Y)<|Ra Y<|Za<|Zf<|K11 0 1 2 3 4 18 19 20 21 22 23 Y<|Qm (cw := md0) (by kernel_rfl)<|D1 0 Zc Y<|D1 1 Zc Y<|D1 2 Zc Y<|D1 3 Zc Y<|D2 4 Zac Y<|bE h fun x13 h_x13 h=>Dq 5 Y (ZY (ov Y) (ov Y) QK Y Y h_x13)<|Dq 6 Y (ZU (ov Y) Y Y h_x13 tS3 Y)<|D1 7 Zc Y<|D1 8 Zc Y<|bE h fun x14 h_x14 h=>Dq 9 Y (ZY (ov Y) (ov Y) QK Y Y h_x14)<|Dq 10 Y (ZU (ov Y) Y Y h_x14 tS3 Y)<|bE h fun y3 h_y3 h=>Dq 11 Y (Zd0 (ov Y) cmp_d (cmp_h _ _ _ h_y3)<|.cons (ov Y) (.b Y)<|.cons (ov Y) (.b Y) .nil)<|D2 12 ZJ Y<|D1 13 XW Y<|Dd<|K12 0 1 2 3 4 18 19 20 21 22 23 171 Y<|If h Y (fun h=>?_) fun h=>?_
      ·
       exact K11 0 1 2 3 4 18 19 20 21 22 23 Y<|Zq<|Rm Y<|R2 ZI Y<|Ra Y<|Za<|⟨_, h, ES [some 0]<|sr 0 Y (.own _ Y)<|sd 1 Y Y<|sd 2 Y Y<|sd 3 Y Y<|sr 4 Y (rFn<|rld cmp_d)<|sd 18 Y Y<|sd 19 Y Y<|sd 20 Y Y<|sd 21 Y Y<|sd 22 Y Y sn⟩
      ·
       exact K11 0 1 2 3 4 18 19 20 21 22 23 Y<|Zq<|Rm Y<|Ra Y<|Za<|⟨_, h, ES [some 0]<|sr 0 Y (.own _ Y)<|sd 1 Y Y<|sd 2 Y Y<|sd 3 Y Y<|sr 4 Y (rFn<|rld cmp_d)<|sd 18 Y Y<|sd 19 Y Y<|sd 20 Y Y<|sd 21 Y Y<|sd 22 Y Y sn⟩
     ·
      refine ZD<|?_
      replace h := lx h ▸ ho5
      exact ⟨_, h, ES [some 0]<|sr 0 Y (.own _ Y)<|sd 1 Y Y<|sd 2 Y Y<|sd 3 Y Y<|sr 4 Y (rFn<|rld cmp_d)<|sd 18 Y Y<|sd 19 Y Y<|sd 20 Y Y sn⟩
    ·
     refine Tr<|Rm Y<|Rm Y<|R2 Zac Y<|Ra Y<|Za<|I1 (fun o5=>⟨[(0, .own 0 o5.length), (1, .int .i64 a), (3, .int .i64 b), (4, .fn cmp_f cmp_c), (18, .int .i64 (i64 q3)), (20, .int .i64 start2), (24, .int .i64 (i64 ((i64 ((i64 q3) + m)) - start2)))], [some ⟨3, List.map R3 o5⟩]⟩) h (fun h=>?_) fun o5 h=>?_
     ·
      refine K8 0 1 2 3 4 18 20 24 Y<|Tr<|Rm Y<|Rm Y<|R2 ZJ Y<|Rm Y<|Rq Y (.guarded ((decide (start2 < m)) == true) Y Y Y Y fun h => Zc<|ov Y)<|Rq Y (.guarded ((decide (start2 < m)) == true) Y Y Y Y fun h => Zc<|ov Y)<|Rq Y (.guarded ((decide (start2 < m)) == true) Y Y Y Y fun h => ZJ (ow Y h)<|ow Y h)<|Rq Y (Zai (ov Y) fun hp=>ow Y<|gT hp)<|Za<|K9 0 1 2 3 4 18 20 24 185 Y<|If h Y (fun h=>?_) fun h=>?_
      ·
       exact K8 0 1 2 3 4 18 20 24 Y<|Zq<|Rm Y<|Rm Y<|Rm Y<|Rm Y<|Rm Y<|bE h fun y4 h_y4 h=>Rx Y (Zv [0] (ZcE cmp_d cmp_h h_y4) (.cons (ov Y) (.own _ Y)<|.cons (ov Y) (.dat Y)<|.cons (ov Y) (.dat Y)<|.cons (ov Y) (.dat Y)<|.cons (ov Y) (rFn<|rld cmp_d) .nil) (.cons Y (roM D3) .nil) Y (.lent 0 (.inl Y) Y (roM D3) .nil) Y Y<|Qr<|rld Y)<|Za<|⟨_, h, ES [some 0]<|sr 0 Y (Zcu (Eq.symm<|JH h_y4) Y)<|sd 1 Y Y<|sd 3 Y Y<|sr 4 Y (rFn<|rld cmp_d)<|sd 18 Y Y<|sd 20 Y Y<|sd 24 Y Y sn⟩
      ·
       exact Zh<|⟨_, h, ES [some 0]<|sr 0 Y (.own _ Y)<|sd 1 Y Y<|sd 3 Y Y<|sr 4 Y (rFn<|rld cmp_d)<|sd 18 Y Y<|sd 20 Y Y<|sd 24 Y Y sn⟩
     ·
      refine I1 (fun o6=>⟨[(0, .own 0 o6.length), (3, .int .i64 b), (4, .fn cmp_f cmp_c), (18, .int .i64 (i64 q3)), (24, .int .i64 (i64 ((i64 ((i64 q3) + m)) - start2)))], [some ⟨3, List.map R3 o6⟩]⟩) h (fun h=>?_) fun o6 h=>?_
      ·
       refine Tr<|Rm Y<|Rm Y<|R2 ZJ Y<|Rm Y<|Rq Y (.guarded ((decide (a < start2)) == true) Y Y Y Y fun h => Zc<|ov Y)<|Rq Y (.guarded ((decide (a < start2)) == true) Y Y Y Y fun h => Zc<|ov Y)<|Rq Y (.guarded ((decide (a < start2)) == true) Y Y Y Y fun h => ZJ (ow Y h)<|ow Y h)<|Rq Y (Zai (ov Y) fun hp=>ow Y<|gT hp)<|Za<|K8 0 1 3 4 18 20 24 199 Y<|If h Y (fun h=>?_) fun h=>?_
       ·
        exact K7 0 1 3 4 18 20 24 Y<|Zq<|Rm Y<|Rm Y<|Rm Y<|Rm Y<|Rm Y<|bE h fun y5 h_y5 h=>Rx Y (Zv [0] (hrec cmp_d cmp_h h_y5) (.cons (ov Y) (.own _ Y)<|.cons (ov Y) (.dat Y)<|.cons (ov Y) (.dat Y)<|.cons (ov Y) (.dat Y)<|.cons (ov Y) (rFn<|rld cmp_d) .nil) (.cons Y (roM D3) .nil) Y (.lent 0 (.inl Y) Y (roM D3) .nil) Y Y<|Qr<|rld Y)<|Za<|⟨_, h, ES [some 0]<|sr 0 Y (Zcu (Eq.symm<|ln_rec_ h_y5) Y)<|sd 3 Y Y<|sr 4 Y (rFn<|rld cmp_d)<|sd 18 Y Y<|sd 24 Y Y sn⟩
       ·
        exact Zh<|⟨_, h, ES [some 0]<|sr 0 Y (.own _ Y)<|sd 3 Y Y<|sr 4 Y (rFn<|rld cmp_d)<|sd 18 Y Y<|sd 24 Y Y sn⟩
      ·
       refine Tr<|Rm Y<|Rm Y<|R2 ZJ Y<|Rm Y<|Rq Y (.guarded ((decide ((i64 q3) < (i64 ((i64 ((i64 q3) + m)) - start2)))) == true) Y Y Y Y fun h => Zc<|ov Y)<|Rq Y (.guarded ((decide ((i64 q3) < (i64 ((i64 ((i64 q3) + m)) - start2)))) == true) Y Y Y Y fun h => Zc<|ov Y)<|Rq Y (.guarded ((decide ((i64 q3) < (i64 ((i64 ((i64 q3) + m)) - start2)))) == true) Y Y Y Y fun h => ZJ (ow Y h)<|ow Y h)<|Rq Y (Zai (ov Y) fun hp=>ow Y<|gT hp)<|Za<|K6 0 3 4 18 24 213 Y<|If h Y (fun h=>?_) fun h=>?_
       ·
        refine K5 0 3 4 18 24 Y<|Zq<|Rm Y<|Rm Y<|Rm Y<|Rm Y<|Rm Y<|bE h fun y6 h_y6 h=>Rx Y (Zv [0] (hrec cmp_d cmp_h h_y6) (.cons (ov Y) (.own _ Y)<|.cons (ov Y) (.dat Y)<|.cons (ov Y) (.dat Y)<|.cons (ov Y) (.dat Y)<|.cons (ov Y) (rFn<|rld cmp_d) .nil) (.cons Y (roM D3) .nil) Y (.lent 0 (.inl Y) Y (roM D3) .nil) Y Y<|Qr<|rld Y)<|Za<|?_
        obtain rfl := rt h
        exact Zft [some 0] Y .nil (.cons Y (roM D3) .nil) Y Y<|Qr rln
       ·
        refine Zh<|?_
        obtain rfl := rt h
        exact Zft [some 0] Y .nil (.cons Y (roM D3) .nil) Y Y<|Qr rln
theorem Jh {n_ : Nat} {data : List Int} {a : Int} {m : Int} {b : Int} {cmp : Int → Int → Option Int} {r : (List Int)} {cmp_f : FuncId} {cmp_c : List AV} (cmp_d : cmp_c.all datB = true) (cmp_h : ∀ (z0 : Int) (z1 : Int) z, cmp z0 z1 = some z → CSpec Tryz.prog gl0 cmp_f ([.int .i64 z0, .int .i64 z1] ++ cmp_c) (.int .i64 z)) (h : Z2 n_ data a m b cmp = some r) :
 GSpec Tryz.prog gl0 139 [.own 0 data.length, .int .i64 a, .int .i64 m, .int .i64 b, .fn cmp_f cmp_c] [some ⟨3, List.map R3 data⟩] (.tuple []) [some ⟨3, List.map R3 r⟩] := by
 induction n_ generalizing data a m b cmp r cmp_f cmp_c with
 | zero => cases h
 | succ n ih => exact ZbI cmp_d cmp_h Qb (fun cmp_d cmp_h h => ih cmp_d cmp_h h) h
theorem ZcI {data : List Int} {n : Int} {cmp : Int → Int → Option Int} {r : (List Int)} {cmp_f : FuncId} {cmp_c : List AV} (cmp_d : cmp_c.all datB = true) (cmp_h : ∀ (z0 : Int) (z1 : Int) z, cmp z0 z1 = some z → CSpec Tryz.prog gl0 cmp_f ([.int .i64 z0, .int .i64 z1] ++ cmp_c) (.int .i64 z)) (h : ZX data n cmp = some r) :
 GSpec Tryz.prog gl0 128 [.own 0 data.length, .int .i64 n, .fn cmp_f cmp_c] [some ⟨3, List.map R3 data⟩] (.tuple []) [some ⟨3, List.map R3 r⟩] := by
 unfold ZX at h
 replace h := Z5 h
 refine Z1 (by kernel_rfl) Tryz.func128 Y Y<|?_
 intro w0 A W φ0
 refine Tr<|Ra Y<|Za<|Tr<|Rm Y<|Ra Y<|Ra Y<|Za<|I2 (fun o a=>⟨[(0, .own 0 o.length), (1, .int .i64 n), (2, .fn cmp_f cmp_c), (6, .int .i64 20), (7, .int .i64 a)], [some ⟨3, List.map R3 o⟩]⟩) h (fun h=>?_) fun o a h=>?_
 ·
  refine Ze<|?_
  obtain ⟨r1, hl1, ho1⟩ := QP h
  refine L3 (fun o2 a2 b=>⟨[(0, .own 0 o2.length), (1, .int .i64 n), (2, .fn cmp_f cmp_c), (6, .int .i64 20), (7, .int .i64 a2), (8, .int .i64 b)], [some ⟨3, List.map R3 o2⟩]⟩) hl1 (ES [some 0]<|sr 0 Y (.own _ Y)<|sd 1 Y Y<|sr 2 Y (rFn<|rld cmp_d)<|sd 6 Y Y<|sd 7 Y Y<|sd 8 Y Y sn) fun n1 o2 a2 b h=>?_
  unfold ZP at h
  refine Zf<|Tr<|Rm Y<|Rm Y<|R2 Zik Y<|Za<|K7 0 1 2 6 7 8 13 Y<|If h Y (fun h=>?_) fun h=>?_
  ·
   exact Zh<|Ze<|K6 0 1 2 6 7 8 Y<|Tr<|Rm Y<|Rm Y<|Rm Y<|Rm Y<|bE h fun y h_y h=>Rx Y (Zv [0] (Xy cmp_d cmp_h h_y) (.cons (ov Y) (.own _ Y)<|.cons (ov Y) (.dat Y)<|.cons (ov Y) (.dat Y)<|.cons (ov Y) (rFn<|rld cmp_d) .nil) (.cons Y (roM D3) .nil) Y (.lent 0 (.inl Y) Y (roM D3) .nil) Y Y<|Qr<|rld Y)<|Za<|K6 0 1 2 6 7 8 Y<|Tr<|Rm Y<|Ra Y<|Za<|K6 0 1 2 6 7 8 Y<|Zq<|Rm Y<|Rm Y<|R2 ZI Y<|Ra Y<|Za<|⟨_, h, ES [some 0]<|sr 0 Y (Zcu (Eq.symm<|Qf h_y) Y)<|sd 1 Y Y<|sr 2 Y (rFn<|rld cmp_d)<|sd 6 Y Y<|sd 7 Y Y<|sd 8 Y Y sn⟩
  ·
   refine ZD<|?_
   replace h := lx h ▸ ho1
   exact ⟨_, h, ES [some 0]<|sr 0 Y (.own _ Y)<|sd 1 Y Y<|sr 2 Y (rFn<|rld cmp_d)<|sd 6 Y Y<|sd 7 Y Y sn⟩
 ·
  refine Tr<|Rm Y<|Rm Y<|Rm Y<|Rm Y<|bE h fun y2 h_y2 h=>Rx Y (Zv [0] (Xy cmp_d cmp_h h_y2) (.cons (ov Y) (.own _ Y)<|.cons (ov Y) (.dat Y)<|.cons (ov Y) (.dat Y)<|.cons (ov Y) (rFn<|rld cmp_d) .nil) (.cons Y (roM D3) .nil) Y (.lent 0 (.inl Y) Y (roM D3) .nil) Y Y<|Qr<|rld Y)<|Za<|Ze<|?_
  obtain ⟨r2, hl2, ho2⟩ := QP h
  refine L2 (fun o3 blockSize=>⟨[(0, .own 0 o3.length), (1, .int .i64 n), (2, .fn cmp_f cmp_c), (6, .int .i64 blockSize)], [some ⟨3, List.map R3 o3⟩]⟩) hl2 (ES [some 0]<|sr 0 Y (Zcu (Eq.symm<|Qf h_y2) Y)<|sd 1 Y Y<|sr 2 Y (rFn<|rld cmp_d)<|sd 6 Y Y sn) fun n2 o3 blockSize h=>?_
  unfold ZQ at h
  refine Zf<|Tr<|Rm Y<|Rm Y<|R2 ZJ Y<|Za<|K5 0 1 2 6 30 Y<|If h Y (fun h=>?_) fun h=>?_
  ·
   refine Zh<|Ze<|K4 0 1 2 6 Y<|Tr<|Rm Y<|R2 ZfQ Y<|Ra Y<|Ra Y<|Za<|I2 (fun o4 a3=>⟨[(0, .own 0 o4.length), (1, .int .i64 n), (2, .fn cmp_f cmp_c), (6, .int .i64 blockSize), (7, .int .i64 a3)], [some ⟨3, List.map R3 o4⟩]⟩) h (fun h=>?_) fun o4 a3 h=>?_
   ·
    refine Ze<|?_
    obtain ⟨r3, hl3, ho3⟩ := QP h
    refine L3 (fun o5 a4 b2=>⟨[(0, .own 0 o5.length), (1, .int .i64 n), (2, .fn cmp_f cmp_c), (6, .int .i64 blockSize), (7, .int .i64 a4), (8, .int .i64 b2)], [some ⟨3, List.map R3 o5⟩]⟩) hl3 (ES [some 0]<|sr 0 Y (.own _ Y)<|sd 1 Y Y<|sr 2 Y (rFn<|rld cmp_d)<|sd 6 Y Y<|sd 7 Y Y<|sd 8 Y Y sn) fun n3 o5 a4 b2 h=>?_
    unfold ZG at h
    refine Zf<|Tr<|Rm Y<|Rm Y<|R2 Zik Y<|Za<|K7 0 1 2 6 7 8 35 Y<|If h Y (fun h=>?_) fun h=>?_
    ·
     exact Zh<|Ze<|K6 0 1 2 6 7 8 Y<|Tr<|Rm Y<|Rm Y<|Rm Y<|Rm Y<|R2 ZI Y<|Rm Y<|Rm Y<|bE h fun y3 h_y3 h=>Rx Y (Zv [0] (Jh cmp_d cmp_h h_y3) (.cons (ov Y) (.own _ Y)<|.cons (ov Y) (.dat Y)<|.cons (ov Y) (.dat Y)<|.cons (ov Y) (.dat Y)<|.cons (ov Y) (rFn<|rld cmp_d) .nil) (.cons Y (roM D3) .nil) Y (.lent 0 (.inl Y) Y (roM D3) .nil) Y Y<|Qr<|rld Y)<|Za<|K6 0 1 2 6 7 8 Y<|Tr<|Rm Y<|Ra Y<|Za<|K6 0 1 2 6 7 8 Y<|Zq<|Rm Y<|Rm Y<|R2 ZfQ Y<|R2 ZI Y<|Ra Y<|Za<|⟨_, h, ES [some 0]<|sr 0 Y (Zcu (Eq.symm<|Qb h_y3) Y)<|sd 1 Y Y<|sr 2 Y (rFn<|rld cmp_d)<|sd 6 Y Y<|sd 7 Y Y<|sd 8 Y Y sn⟩
    ·
     refine ZD<|?_
     replace h := lx h ▸ ho3
     exact ⟨_, h, ES [some 0]<|sr 0 Y (.own _ Y)<|sd 1 Y Y<|sr 2 Y (rFn<|rld cmp_d)<|sd 6 Y Y<|sd 7 Y Y sn⟩
   ·
    refine Zf<|Tr<|Rm Y<|Rm Y<|R2 ZI Y<|Ra Y<|Za<|K6 0 1 2 6 7 9 Y<|Tr<|Rm Y<|Rm Y<|R2 ZJ Y<|Za<|K7 0 1 2 6 7 9 54 Y<|If h Y (fun h=>?_) fun h=>?_
    ·
     exact K6 0 1 2 6 7 9 Y<|Zq<|Rm Y<|Rm Y<|Rm Y<|Rm Y<|Rm Y<|bE h fun y4 h_y4 h=>Rx Y (Zv [0] (Jh cmp_d cmp_h h_y4) (.cons (ov Y) (.own _ Y)<|.cons (ov Y) (.dat Y)<|.cons (ov Y) (.dat Y)<|.cons (ov Y) (.dat Y)<|.cons (ov Y) (rFn<|rld cmp_d) .nil) (.cons Y (roM D3) .nil) Y (.lent 0 (.inl Y) Y (roM D3) .nil) Y Y<|Qr<|rld Y)<|Za<|K4 0 1 2 6 Y<|Zq<|Rm Y<|R2 ZfQ Y<|Ra Y<|Za<|⟨_, h, ES [some 0]<|sr 0 Y (Zcu (Eq.symm<|Qb h_y4) Y)<|sd 1 Y Y<|sr 2 Y (rFn<|rld cmp_d)<|sd 6 Y Y sn⟩
    ·
     exact Zh<|K4 0 1 2 6 Y<|Zq<|Rm Y<|R2 ZfQ Y<|Ra Y<|Za<|⟨_, h, ES [some 0]<|sr 0 Y (.own _ Y)<|sd 1 Y Y<|sr 2 Y (rFn<|rld cmp_d)<|sd 6 Y Y sn⟩
  ·
   refine ZD<|?_
   replace h := lx h ▸ ho2
   obtain rfl := rt h
   exact Zft [some 0] Y .nil (.cons Y (roM D3) .nil) Y Y<|Qr rln
theorem Zbz {x : List Int} {cmp : Int → Int → Option Int} {r : (List Int)} {cmp_f : FuncId} {cmp_c : List AV} (cmp_d : cmp_c.all datB = true) (cmp_h : ∀ (z0 : Int) (z1 : Int) z, cmp z0 z1 = some z → CSpec Tryz.prog gl0 cmp_f ([.int .i64 z0, .int .i64 z1] ++ cmp_c) (.int .i64 z)) (h : ZK x cmp = some r) :
 GSpec Tryz.prog gl0 104 [.own 0 x.length, .fn cmp_f cmp_c] [some ⟨3, List.map R3 x⟩] (.tuple []) [some ⟨3, List.map R3 r⟩] := by
 unfold ZK at h
 replace h := Z5 h
 refine Z1 (by kernel_rfl) Tryz.func104 Y Y<|?_
 intro w0 A W φ0
 refine Zq<|Rm Y<|Rm Y<|Rq Y (Zd2 (ov Y) Y Y QK)<|Rm Y<|bE h fun y h_y h=>Rx Y (Zv [0] (ZcI cmp_d cmp_h h_y) (.cons (ov Y) (.own _ Y)<|.cons (ov Y) (.dat Y)<|.cons (ov Y) (rFn<|rld cmp_d) .nil) (.cons Y (roM D3) .nil) Y (.lent 0 (.inl Y) Y (roM D3) .nil) Y Y<|Qr<|rld Y)<|Za<|?_
 obtain rfl := rt h
 exact Zft [some 0] Y .nil (.cons Y (roM D3) .nil) Y Y<|Qr rln
theorem Zdm {i : Int} {c0 : api_Memory} {r : Int} (h : X7 i c0 = some r) :
 CSpec Tryz.prog gl0 103 [.int .i64 i, .rp [.int .i64 c0.Slots, .int .i64 c0.Limit, .sl 22 (List.map R22 c0.Sectors), .sl 3 (List.map R3 c0.Wear), .sl 4 (List.map R4 c0.Bad)] 0] (.int .i64 r) := by
 unfold X7 at h
 replace h := Z5 h
 refine So Tryz.func103 Y fun w0 A=>Tr<|Ra Y<|Za<|K2 0 1 Y<|Tr<|Rq Y (Z6 (ov Y) ZH)<|Rq Y (Zi (ov Y) Ql Y)<|Rm Y<|bE h fun x h_x h=>Rq Y (Qo (ov Y) (ov Y) Z8 h_x)<|Rq Y (Zi (ov Y) Zhi Y)<|bE h fun y h_y h=>Rq Y (Zr (Zbu h_y)<|.cons (ov Y) (.b Y) .nil)<|Rm Y<|Rq Y (Zg (ov Y) Y)<|Rq Y (Zg (ov Y) Y)<|Rq Y (Zg (ov Y) Y)<|Ra Y<|Ra Y<|Ra Y<|Za<|K1 4 Y<|Tr<|Rm Y<|Ra Y<|Za<|?_
 obtain rfl := rt h
 exact Zn (ZN Y (.one<|rb Y))
theorem Zga {a : Int} {b : Int} {k : api_Memory} {r : Int} (h : JQ a b k = some r) :
 CSpec Tryz.prog gl0 105 [.int .i64 a, .int .i64 b, .rp [.fn 103 [.rp [.int .i64 k.Slots, .int .i64 k.Limit, .sl 22 (List.map R22 k.Sectors), .sl 3 (List.map R3 k.Wear), .sl 4 (List.map R4 k.Bad)] 0]] 0] (.int .i64 r) := by
 unfold JQ at h
 replace h := Z5 h
 refine So Tryz.func105 Y fun w0 A=>Tr<|Ra Y<|Za<|Zf<|Qm (cw := md0) (by kernel_rfl)<|Dq 0 Y (Zi (ov Y) ZkP Y)<|D1 1 Zc Y<|bE h fun y h_y h=>Dq 2 Y (Zd0 (ov Y) Y (Zdm h_y)<|.cons (ov Y) (.b Y) .nil)<|Dq 3 Y (Zi (ov Y) ZkP Y)<|D1 4 Zc Y<|bE h fun y2 h_y2 h=>Dq 5 Y (Zd0 (ov Y) Y (Zdm h_y2)<|.cons (ov Y) (.b Y) .nil)<|D2 6 Zac Y<|D1 7 Qh Y<|Dd<|?_
 obtain rfl := rt h
 exact Zn (ZN Y (.one<|rb Y))
theorem Zem {m : api_Memory} {r : (List Int)} (h : Zaa m = some r) :
 CSpec Tryz.prog gl0 69 [.agg [.int .i64 m.Slots, .int .i64 m.Limit, .sl 22 (List.map R22 m.Sectors), .sl 3 (List.map R3 m.Wear), .sl 4 (List.map R4 m.Bad)]] (.sl 3 (List.map R3 r)) := by
 unfold Zaa at h
 replace h := Z5 h
 refine So Tryz.func69 Y fun w0 A=>Tr<|Rq Y (Zdu (cva<|ov Y) Y tZ_59 Y)<|Ra Y<|Za<|K1 1 Y<|Tr<|Ra Y<|Za<|Tr<|Rq Y (ZhG<|.cons (ov Y) .nil)<|Rx Y (Qg (row := [_]) 0 Y Zmg Y tZ_109)<|Rx Y (Zm (ov Y) (ov Y) (Zd ZkP) Y Y Y (Nat.le_of_ble_eq_true Y) (Zb Y) Y)<|Za<|I1 (fun out=>⟨[(3, .own 0 out.length), (4, .ptr 1 1 0 0)], [some ⟨3, List.map R3 out⟩, some ⟨109, [[.fn 103 [.rp [.int .i64 m.Slots, .int .i64 m.Limit, .sl 22 (List.map R22 m.Sectors), .sl 3 (List.map R3 m.Wear), .sl 4 (List.map R4 m.Bad)] 0]]]⟩]⟩) h (fun h=>?_) fun out h=>?_
 ·
  refine K3 1 3 4 Y<|Tr<|Rq Y (Z6 (ov Y) ZH)<|Rq Y (Zi (ov Y) Ql Y)<|Rl tZ_22 Z8 Y<|Rm Y<|Za<|Ze<|?_
  obtain ⟨r1, hl1, ho1⟩ := QP h
  refine L2 (fun out2 i=>⟨[(1, .rp [.int .i64 m.Slots, .int .i64 m.Limit, .sl 22 (List.map R22 m.Sectors), .sl 3 (List.map R3 m.Wear), .sl 4 (List.map R4 m.Bad)] 0), (3, .own 0 out2.length), (4, .ptr 1 1 0 0), (12, .sl 22 (List.map R22 m.Sectors)), (13, .int .i64 (m.Sectors.length : Int)), (14, .int .i64 i)], [some ⟨3, List.map R3 out2⟩, some ⟨109, [[.fn 103 [.rp [.int .i64 m.Slots, .int .i64 m.Limit, .sl 22 (List.map R22 m.Sectors), .sl 3 (List.map R3 m.Wear), .sl 4 (List.map R4 m.Bad)] 0]]]⟩]⟩) hl1 (ES [none, some 0] (hhp := .row 3<|.cons Y (ro1 (by exact tZ_109.symm)<|rlc (rFn<|rlc (.dat Y) rln) rln) .nil)) fun n1 out2 i h=>?_
  unfold ZaG at h
  refine Tr<|R2 ZJ Y<|Za<|Zf<|If h Y (fun h=>?_) fun h=>?_
  ·
   refine Zh<|Zf<|Ze<|K6 1 3 4 12 13 14 Y<|Tr<|Rm Y<|bE h fun x h_x h=>Rq Y (Qo (ov Y) (ov Y) Z8 h_x)<|Rq Y (Zi (ov Y) Zhi Y)<|Ra Y<|Ra Y<|Za<|K8 1 3 4 5 6 12 13 14 Y<|Tr<|Rm Y<|bE h fun y h_y h=>Rq Y (Zr (Zbu h_y)<|.cons (ov Y) (.b Y) .nil)<|Rm Y<|Rq Y (Zg (ov Y) Y)<|Rq Y (Zg (ov Y) Y)<|Rq Y (Zg (ov Y) Y)<|Ra Y<|Ra Y<|Ra Y<|Za<|K8 1 3 4 5 9 12 13 14 Y<|Tr<|Rm Y<|Rm Y<|Rq Y (.guarded (y.2.2 == true) Y Y Y Y fun h => Z6 (ov Y) ZgW)<|Rq Y (.guarded (y.2.2 == true) Y Y Y Y fun h => Zi (ow Y h) Zjv Y)<|Rq Y (.guarded (y.2.2 == true) Y Y Y Y fun h => Zc<|ov Y)<|bE h fun x2 h_x2 h=>Rq Y (.guarded (y.2.2 == true) Y Y Y Y fun h => Qo (ow Y h) (ow Y h) Zia<|gdT h_x2 h)<|Rq Y (.guarded (y.2.2 == true) Y Y Y Y fun h => Zi (ow Y h) tS4 Y)<|Rq Y (.guarded (y.2.2 == true) Y Y Y Y fun h => XW<|ow Y h)<|Rq Y (Zai (ov Y) fun hp=>ow Y<|gT hp)<|Za<|K8 1 3 4 5 12 13 14 33 Y<|If h Y (fun h=>?_) fun h=>?_
   ·
    exact K7 1 3 4 5 12 13 14 Y<|Zq<|Rm Y<|Rm Y<|R_q (.sl 3<|List.map R3 ([i] : List Int)) Y (XX QK (.cons (cvs (ov Y)<|Zj Y) Y (.cons (.b Y) .nil) .nil) Y Y)<|bE h fun l h_l h=>Rx Y (Xg (ov Y) (Qt (ov Y) tZ_3) QK Y Y Y (fun _=>Zb Y) Y h_l)<|Ra Y<|Za<|K6 1 3 4 12 13 14 Y<|Zq<|R2 ZI Y<|Rm Y<|Za<|⟨_, h, ES [some 0, some 1] (hhp := .cons Y (roM D3)<|.cons Y (ro1 (by exact tZ_109.symm)<|rlc (rFn<|rlc (.dat Y) rln) rln) .nil)⟩
   ·
    exact Zh<|K6 1 3 4 12 13 14 Y<|Zq<|R2 ZI Y<|Rm Y<|Za<|⟨_, h, ES [some 0, some 1] (hhp := .cons Y (roM D3)<|.cons Y (ro1 (by exact tZ_109.symm)<|rlc (rFn<|rlc (.dat Y) rln) rln) .nil)⟩
  ·
   refine ZD<|?_
   replace h := lx h ▸ ho1
   exact ⟨_, h, ES [some 0, some 1] (hhp := .cons Y (roM D3)<|.cons Y (ro1 (by exact tZ_109.symm)<|rlc (rFn<|rlc (.dat Y) rln) rln) .nil)⟩
 ·
  refine Tr<|Rm Y<|QW (Ent.sel [some 0, none] (sr 3 Y (.own (r' := 0) _ Y)<|sr 4 Y (.frp ⟨Y, ⟨_, Y⟩, Y, Y⟩)<|sr 39 Y (.own (r' := 0) _ Y) sn) (.cons Y (roM D3)<|.row 109 .nil) Y Y)<|Rq Y (ZhG<|.cons (ov Y) .nil)<|bE h fun y2 h_y2 h=>Rx Y (Zv [0] (Zbz Y (fun z0 z1 _ hz=>Zga hz) h_y2) (.cons (ov Y) (.own _ Y)<|.cons (ov Y) (.dat Y) .nil) (.cons Y (roM D3) .nil) Y (.lent 0 (.inl Y) Y (roM D3)<|.keep Y Y .nil) Y Y<|Qr<|rld Y)<|Za<|K1 3 Y<|Tr<|Rm Y<|Ra Y<|Za<|?_
  obtain rfl := rt h
  exact Zn (ZN Y (.one<|.tmp Y<|View.ownM Y (Zbv h_y2) D3))
theorem ZeW {s : List Int} {i : Int} {r : (Vector Int 97)} (h : ZaY s i = some r) :
 CSpec Tryz.prog gl0 71 [.sl 5 (List.map R5 s), .int .i64 i] (.rp (List.map C5 r.toList) 0) := by
 unfold ZaY at h
 replace h := Z5 h
 refine So Tryz.func71 Y fun w0 A=>Tr<|Ra Y<|Za<|K2 0 1 Y<|Tr<|Rm Y<|R2 ZfQ Y<|R2 ZI Y<|Ra Y<|Za<|K2 0 5 Y<|Tr<|Rm Y<|Rm Y<|Rm Y<|R2 ZI Y<|bE h fun l h_l h=>Rq Y (ZdH (ov Y) ZL (oi<|ov Y) (oi<|ov Y) h_l)<|bE h fun v h_v h=>Rq Y (ZjB (f := C5) (ov Y) ZjJ tZ_5 Y h_v)<|Ra Y<|Za<|?_
 obtain rfl := rt h
 exact Zn (ZN Y (.one<|rb Y))
theorem Zb9 {s : List Int} {f : Int → Option Bool} {r : Int} {f_f : FuncId} {f_c : List AV} (f_d : f_c.all datB = true) (f_h : ∀ (z0 : Int) z, f z0 = some z → CSpec Tryz.prog gl0 f_f ([.int .u8 z0] ++ f_c) (.bool z)) (h : Qq s f = some r) :
 CSpec Tryz.prog gl0 129 [.sl 5 (List.map R5 s), .fn f_f f_c] (.int .i64 r) := by
 unfold Qq at h
 replace h := Z5 h
 refine So Tryz.func129 Y fun w0 A=>Tr<|Ra Y<|Za<|J0 (fun j => (.inr j)) ⟨[], []⟩ h (fun h=>?_) fun h=>?_
 ·
  refine K2 0 1 Y<|Tr<|Rm Y<|Rl tZ_5 ZL Y<|Rm Y<|Za<|Ze<|?_
  obtain ⟨r1, hl1, ho1⟩ := QP h
  refine L1 (fun i=>⟨[(0, .sl 5 (List.map R5 s)), (1, .fn f_f f_c), (7, .int .i64 (s.length : Int)), (8, .int .i64 i)], []⟩) hl1 (ES []<|sd 0 Y Y<|sr 1 Y (rFn<|rld f_d)<|sd 7 Y Y<|sd 8 Y Y sn) fun n1 i h=>?_
  unfold QF at h
  refine Tr<|R2 ZJ Y<|Za<|Zf<|If h Y (fun h=>?_) fun h=>?_
  ·
   refine Zh<|Zf<|Ze<|K4 0 1 7 8 Y<|Tr<|Rm Y<|Ra Y<|Za<|K5 0 1 5 7 8 Y<|Tr<|Rm Y<|Rm Y<|Rm Y<|bE h fun x h_x h=>Rq Y (Qo (ov Y) (ov Y) ZL h_x)<|Rq Y (Zi (ov Y) tS5 Y)<|bE h fun y h_y h=>Rq Y (Zd0 (ov Y) f_d (f_h _ _ h_y)<|.cons (ov Y) (.b Y) .nil)<|Za<|K6 0 1 5 7 8 16 Y<|If h Y (fun h=>?_) fun h=>?_
   ·
    refine K1 5 Y<|Tr<|Rm Y<|Ra Y<|Za<|?_
    replace h := lx h ▸ ho1
    obtain rfl := rt h
    exact Zn (ZN Y (.one<|rb Y))
   ·
    exact Zh<|K4 0 1 7 8 Y<|Zq<|R2 ZI Y<|Rm Y<|Za<|⟨_, h, ES []<|sd 0 Y Y<|sr 1 Y (rFn<|rld f_d)<|sd 7 Y Y<|sd 8 Y Y sn⟩
  ·
   refine ZD<|?_
   replace h := lx h ▸ ho1
   exact ⟨(), h, ES []⟩
 ·
  replace h := elr h
  replace h := t0i h
  refine Tr<|Ra Y<|Za<|?_
  obtain rfl := rt h
  exact Zn (ZN Y (.one<|rb Y))
theorem ZbG {s : List Int} {f : Int → Option Bool} {r : Bool} {f_f : FuncId} {f_c : List AV} (f_d : f_c.all datB = true) (f_h : ∀ (z0 : Int) z, f z0 = some z → CSpec Tryz.prog gl0 f_f ([.int .u8 z0] ++ f_c) (.bool z)) (h : Qa s f = some r) :
 CSpec Tryz.prog gl0 106 [.sl 5 (List.map R5 s), .fn f_f f_c] (.bool r) := by
 unfold Qa at h
 replace h := Z5 h
 refine So Tryz.func106 Y fun w0 A=>Tr<|Ra Y<|Za<|Tr<|Rm Y<|Rm Y<|bE h fun y h_y h=>Rq Y (Zr (Zb9 f_d f_h h_y)<|.cons (ov Y) (.b Y)<|.cons (ov Y) (Dat.fnC<|.refl fun x hx => .b<|List.all_eq_true.1 f_d x hx) .nil)<|R2 Zh1 Y<|Ra Y<|Za<|?_
 obtain rfl := rt h
 exact Zn (ZN Y (.one<|rb Y))
theorem Zgj {b : Int} {r : Bool} (h : JX b = some r) :
 CSpec Tryz.prog gl0 107 [.int .u8 b] (.bool r) := by
 unfold JX at h
 replace h := Z5 h
 refine So Tryz.func107 Y fun w0 A=>Tr<|Ra Y<|Za<|Tr<|Rm Y<|R2 Jf Y<|Ra Y<|Za<|?_
 obtain rfl := rt h
 exact Zn (ZN Y (.one<|rb Y))
theorem Zei {p : Vector Int 97} {r : Int} (h : Zad p = some r) :
 CSpec Tryz.prog gl0 70 [.rp (List.map C5 p.toList) 0] (.int .i64 r) := by
 unfold Zad at h
 replace h := Z5 h
 refine So Tryz.func70 Y fun w0 A=>Tr<|Ra Y<|Za<|Zf<|Ze<|K1 0 Y<|Tr<|Rm Y<|R1 ZC Y<|bE h fun x h_x h=>Rq Y (QS (ov Y) (ov Y) ZjJ h_x)<|Rq Y (Zi (ov Y) tS5<|Qx<|Xw (o := 0) (o' := ((Int.toNat 96) * 1)) (Zs arL)<|Xs h_x)<|R2 JG Y<|Ra Y<|Za<|K2 0 3 Y<|If h Y (fun h=>?_) fun h=>?_
 ·
  refine K0<|Tr<|Ra Y<|Za<|?_
  obtain rfl := rt h
  exact Zn (ZN Y (.one<|rb Y))
 ·
  refine K1 0 Y<|Tr<|Rm Y<|R1 ZC Y<|bE h fun l h_l h=>Rq Y (Zj5 (f := C5) (ov Y) ZjJ tZ_5 (Zs arL) Y on on h_l)<|bE h fun y h_y h=>Rq Y (Zr (ZbG Y (fun z0 _ hz=>Zgj hz) h_y)<|.cons (ov Y) (.b Y)<|.cons (ov Y) .fn .nil)<|Ra Y<|Za<|K1 9 Y<|If h Y (fun h=>?_) fun h=>?_
  ·
   refine K0<|Tr<|Ra Y<|Za<|?_
   obtain rfl := rt h
   exact Zn (ZN Y (.one<|rb Y))
  ·
   refine Zh<|K0<|Tr<|Ra Y<|Za<|?_
   obtain rfl := rt h
   exact Zn (ZN Y (.one<|rb Y))
theorem ZgY {m : api_Memory} {r : ring_spot} (h : Zas m = some r) :
 CSpec Tryz.prog gl0 36 [.agg [.int .i64 m.Slots, .int .i64 m.Limit, .sl 22 (List.map R22 m.Sectors), .sl 3 (List.map R3 m.Wear), .sl 4 (List.map R4 m.Bad)]] (.agg [.int .i64 r.sector, .int .i64 r.slot]) := by
 unfold Zas at h
 replace h := Z5 h
 refine So Tryz.func36 Y fun w0 A=>Tr<|Rq Y (Zdu (cva<|ov Y) Y tZ_59 Y)<|Rx Y (Qg (row := [_, _]) 0 Y Zkl Y tZ_83)<|Za<|K2 1 2 Y<|Tr<|Rq Y (Xp (ov Y) Jt Y Y)<|bE h fun y h_y h=>Rq Y (Zr (Zem h_y)<|.cons (ov Y) (.aggB Y) .nil)<|Ra Y<|Za<|Zf<|K3 1 2 3 Y<|Tr<|Rm Y<|Rl tZ_3 QK Y<|R2 JG Y<|Za<|K4 1 2 3 10 Y<|If h Y (fun h=>?_) fun h=>?_
 ·
  refine K1 2 Y<|Tr<|Rq Y (XI (ys := [_, _]) Zk8 ZkR Zkl (.cons (cvs (ov Y)<|Zj Y) .nil) Y)<|Rx Y (Zm (ov Y) (ov Y) (Zy ZiH Y) Y Y Y (Nat.le_of_ble_eq_true Y) (Zb Y) Y)<|Za<|?_
  obtain rfl := rt h
  exact Zn (ZN Y (.one<|.agg Y Y Y Y ZiH Y Y<|pwB Y))
 ·
  refine Zh<|K3 1 2 3 Y<|Tr<|Rm Y<|Rm Y<|Rl tZ_3 QK Y<|R2 Zac Y<|bE h fun x h_x h=>Rq Y (Qo (ov Y) (ov Y) QK h_x)<|Rq Y (Zi (ov Y) tS3 Y)<|Rq Y (XI (ys := [_, _]) Zk8 ZkR Zkl (.cons (cvs (ov Y)<|Zj Y) .nil) Y)<|Rx Y (Qg (row := [_, _]) 1 Y Zkl Y tZ_83)<|Rx Y (Zm (ov Y) (ov Y) (Zy ZiH Y) Y Y Y (Nat.le_of_ble_eq_true Y) (Zb Y) Y)<|Za<|I1 (fun slot=>⟨[(2, .ptr 0 1 0 0), (4, .ptr 1 1 0 0)], [some ⟨83, [[.int .i64 0, .int .i64 0]]⟩, some ⟨83, [[.int .i64 x, .int .i64 slot]]⟩]⟩) h (fun h=>?_) fun slot h=>?_
  ·
   refine K3 1 2 4 Y<|Tr<|Rq Y (Z6 (ov Y) Zh2)<|Rq Y (Zi (ov Y) tS3 Y)<|Rm Y<|Za<|Ze<|?_
   obtain ⟨r1, hl1, ho1⟩ := QP h
   refine L2 (fun slot2 i=>⟨[(1, .rp [.int .i64 m.Slots, .int .i64 m.Limit, .sl 22 (List.map R22 m.Sectors), .sl 3 (List.map R3 m.Wear), .sl 4 (List.map R4 m.Bad)] 0), (2, .ptr 0 1 0 0), (4, .ptr 1 1 0 0), (20, .int .i64 m.Slots), (21, .int .i64 i)], [some ⟨83, [[.int .i64 0, .int .i64 0]]⟩, some ⟨83, [[.int .i64 x, .int .i64 slot2]]⟩]⟩) hl1 (ES [some 0, some 1]) fun n1 slot2 i h=>?_
   unfold Zaf at h
   refine Tr<|R2 ZJ Y<|Za<|Zf<|If h Y (fun h=>?_) fun h=>?_
   ·
    refine Zh<|Zf<|Ze<|K5 1 2 4 20 21 Y<|Tr<|Rm Y<|Ra Y<|Za<|K6 1 2 4 5 20 21 Y<|Tr<|Rq Y (Z6 (ov Y) ZH)<|Rq Y (Zi (ov Y) Ql Y)<|Rq Y (Zl (ov Y) Y Y ZgJ)<|Rq Y (Zt (ov Y) Y Y Y tS3 Y)<|bE h fun x2 h_x2 h=>Rq Y (Qo (ov Y) (ov Y) Z8 h_x2)<|Rq Y (Zi (ov Y) Zhi Y)<|Rm Y<|bE h fun y2 h_y2 h=>Rq Y (Zr (ZeW h_y2)<|.cons (ov Y) (.b Y)<|.cons (ov Y) (.b Y) .nil)<|bE h fun y3 h_y3 h=>Rq Y (Zr (Zei h_y3)<|.cons (ov Y) (.b Y) .nil)<|R2 Jf Y<|Za<|K7 1 2 4 5 20 21 33 Y<|If h Y (fun h=>?_) fun h=>?_
    ·
     exact K6 1 2 4 5 20 21 Y<|Zq<|Rm Y<|R2 ZI Y<|Rq Y (Zl (ov Y) Y Y Zh0)<|Rx Y (Zm (ov Y) (ov Y) (Zd tS3) Y Y Y (Nat.le_of_ble_eq_true Y) (Zb Y) Y)<|Za<|K5 1 2 4 20 21 Y<|Zq<|R2 ZI Y<|Rm Y<|Za<|⟨_, h, ES [some 0, some 1]⟩
    ·
     exact Zh<|K5 1 2 4 20 21 Y<|Zq<|R2 ZI Y<|Rm Y<|Za<|⟨_, h, ES [some 0, some 1]⟩
   ·
    refine ZD<|?_
    replace h := lx h ▸ ho1
    exact ⟨_, h, ES [some 0, some 1]⟩
  ·
   refine Tr<|Rq Y (QE (ov Y) Y Y Y ZiH Y Y)<|Rx Y (Zm (ov Y) (ov Y) (Zy ZiH Y) Y Y Y (Nat.le_of_ble_eq_true Y) (Zb Y) Y)<|Za<|?_
   obtain rfl := rt h
   exact Zn (ZN Y (.one<|.agg Y Y Y Y ZiH Y Y<|pwB Y))
theorem Zef {l : List api_Memory} {copies : Int} {r : (Int) ⊕ (ring_Recorder × Int)} (h : ZaM l copies = some r) :
 GSpec Tryz.prog gl0 13 [.sl 59 (List.map R59 l), .int .i64 copies] [] (Sum.elim (fun r => .tuple [.lit (.pointer none), .int .i64 r]) (fun r => .tuple [.ptr 0 1 0 0, .int .i64 r.2]) r) (Sum.elim (fun r => []) (fun r => [some ⟨80, [[.own 1 r.1.bank.memories.length, .own 2 r.1.bank.spots.length, .int .i64 r.1.copies, .bool r.1.frozen, .bool r.1.stopped, .int .i64 r.1.last, .bool r.1.some_]]⟩, some ⟨59, List.map O59 r.1.bank.memories⟩, some ⟨83, List.map R83 r.1.bank.spots⟩]) r) := by
 unfold ZaM at h
 replace h := Z5 h
 refine Z1 (by kernel_rfl) Tryz.func13 Y Y<|?_
 intro w0 A W φ0
 refine Tr<|Ra Y<|Ra Y<|Za<|Zf<|K2 0 1 Y<|Tr<|Rm Y<|bE h fun y h_y h=>Rq Y (Zr (ZdP h_y)<|.cons (ov Y) (.b Y) .nil)<|Ra Y<|Za<|K3 0 1 6 Y<|Tr<|Rm Y<|R2 Jf Y<|Za<|K4 0 1 6 17 Y<|If h Y (fun h=>?_) fun h=>?_
 ·
  refine K1 6 Y<|Tr<|Rm Y<|Ra Y<|Ra Y<|Za<|?_
  obtain rfl := rt h
  exact Zn<|XY [] Y (.cons (.tmp Y)<|.cons (.tmp Y) .nil) .nil Y Y<|Qr<|rlc (.dat Y)<|rlc (.dat Y) rln
 ·
  refine Zh<|Zf<|K2 0 1 Y<|Tr<|Rm Y<|Rm Y<|Rl tZ_59 ZcU Y<|bE h fun y2 h_y2 h=>Rq Y (Zr (Z3 h_y2)<|.cons (ov Y) (.b Y)<|.cons (ov Y) (.b Y)<|.cons (ov Y) (.b Y) .nil)<|R1 XW Y<|Za<|K3 0 1 23 Y<|If h Y (fun h=>?_) fun h=>?_
  ·
   refine K0<|Tr<|Ra Y<|Ra Y<|Za<|?_
   obtain rfl := rt h
   exact Zn<|XY [] Y (.cons (.tmp Y)<|.cons (.tmp Y) .nil) .nil Y Y<|Qr<|rlc (.dat Y)<|rlc (.dat Y) rln
  ·
   refine Zh<|K2 0 1 Y<|Tr<|Rm Y<|Rq Y (XI (ys := [_, _, _, _, _, _, _]) Zmm Zmu ZmD (.cons (cvs (ov Y)<|Zj Y) .nil) Y)<|Rx Y (ZjW 0 Y (ov Y) ZmH Y)<|Ra Y<|Za<|K2 0 7 Y<|Tr<|Rm Y<|Rm Y<|bE h fun y3 h_y3 h=>Rx Y (Zv [] (Zge h_y3) (.cons (ov Y) (.dat Y) .nil) .nil Y (.keep Y Y<|.lent 0 (.inr ⟨Nat.le_of_ble_eq_true Y, Y⟩) Y (roO XC) .nil) Y Y<|.own _<|.inr ⟨Nat.le_of_ble_eq_true Y, Y⟩)<|Rq Y (Zu (ov Y) Y Y)<|Rq Y (Zl (ov Y) Y Y ZeY)<|Rq Y (Zl (ov Y) Y Y ZdW)<|Rx Y (Zm (ov Y) (ov Y) (Zd ZiL) Y Y Y (Nat.le_of_ble_eq_true Y) (Zb Y) Y)<|Za<|I2 (fun spots frozen=>⟨[(7, .ptr 0 1 0 0)], [some ⟨80, [[.own 1 y3.length, .own 2 spots.length, .int .i64 copies, .bool frozen, .bool false, .int .i64 0, .bool false]]⟩, some ⟨59, List.map O59 y3⟩, some ⟨83, List.map R83 spots⟩]⟩) h (fun h=>?_) fun spots frozen h=>?_
   ·
    refine K1 7 Y<|Xa [some ⟨80, [[.own 1 y3.length, .nils, .int .i64 copies, .bool false, .bool false, .int .i64 0, .bool false]]⟩, some ⟨59, List.map O59 y3⟩] Y<|Tr<|Rm Y<|Rq Y (Zu (ov Y) Y Y)<|Rq Y (Zl (ov Y) Y Y ZeY)<|Rq Y (Zl (ov Y) Y Y ZdW)<|Rq Y (Zt (ov Y) Y Y Y ZiL Y)<|Rq Y (Zd2 (ov Y) Y Y ZcU)<|Rm Y<|Za<|Ze<|?_
    obtain ⟨r1, hl1, ho1⟩ := QP h
    refine L3 (fun spots2 frozen2 i=>⟨[(7, .ptr 0 1 0 0), (37, .own 1 y3.length), (38, .int .i64 (y3.length : Int)), (39, .int .i64 i)], [some ⟨80, [[.own 1 y3.length, .own 2 spots2.length, .int .i64 copies, .bool frozen2, .bool false, .int .i64 0, .bool false]]⟩, some ⟨59, List.map O59 y3⟩, some ⟨83, List.map R83 spots2⟩]⟩) hl1 (ES [some 0, some 1, none] (hhp := .cons Y (ro1 (by exact tZ_80.symm)<|rlc (.own _ Y)<|rlc (.row Y)<|rlc (.dat Y)<|rlc (.dat Y)<|rlc (.dat Y)<|rlc (.dat Y)<|rlc (.dat Y) rln)<|.cons Y (roO XC)<|.row 83 .nil)) fun n1 spots2 frozen2 i h=>?_
    unfold Zb1 at h
    refine Tr<|R2 ZJ Y<|Za<|Zf<|If h Y (fun h=>?_) fun h=>?_
    ·
     refine Zh<|Zf<|Ze<|K4 7 37 38 39 Y<|Tr<|bE h fun x h_x h=>Rq Y (ZY (ov Y) (ov Y) ZcU Y Y h_x)<|QW (Ent.focusH (r := 1) (j := 2) (e' := 22) (g := O22) (ys := x.Sectors) Y (Zx h_x).2 Y XD)<|QW (Ent.focusI (r := 1) (j := 3) (e' := 3) (g := R3) (ys := x.Wear) Y (Zx h_x).2 Y DR3)<|QW (Ent.focusI (r := 1) (j := 4) (e' := 4) (g := R4) (ys := x.Bad) Y (Zx h_x).2 Y DR4)<|Rq Y (Zk5 (ov Y) Y Y (Zx h_x).2 Jt Y Y)<|Rx Y (Qg (row := [_, _, _, _, _]) 6 Y Zdx Y tZ_59)<|Rx Y (Zm (ov Y) (ov Y) (Zy Jt Y) Y Y Y (Nat.le_of_ble_eq_true Y) (Zb Y) Y)<|ZeS [some ⟨80, [[.own 1 y3.length, .own 2 spots2.length, .int .i64 copies, .bool frozen2, .bool false, .int .i64 0, .bool false]]⟩, some ⟨59, List.set (List.map O59 y3) i.toNat [.int .i64 x.Slots, .int .i64 x.Limit, .own 3 x.Sectors.length, .own 4 x.Wear.length, .own 5 x.Bad.length]⟩, some ⟨83, List.map R83 spots2⟩, some ⟨22, List.map O22 x.Sectors⟩, some ⟨3, List.map R3 x.Wear⟩, some ⟨4, List.map R4 x.Bad⟩, some ⟨59, [[.int .i64 x.Slots, .int .i64 x.Limit, .own 3 x.Sectors.length, .own 4 x.Wear.length, .own 5 x.Bad.length]]⟩] Y<|Za<|K5 7 9 37 38 39 Y<|Tr<|Rq Y (QE (ov Y) Y Y Y Jt Y Y)<|bE h fun y4 h_y4 h=>Rq Y (J3 (ZgY h_y4) (.agg<|by simp only [List.mem_cons, List.not_mem_nil, or_false, forall_eq_or_imp, forall_eq]; exact ⟨.int, .int⟩)<|.cons (ov Y) (View.aggL<|.cons (Dat.view<|.b Y)<|.cons (Dat.view<|.b Y)<|.cons (View.ownO Y Y XD (fun x=>(D22 x).1) ZlO)<|.cons (View.ownM Y Y D3)<|.cons (View.ownM Y Y D4) .nil) .nil)<|Rx Y (Qg (row := [_, _]) 7 Y Zkl Y tZ_83)<|Rx Y (Zm (ov Y) (ov Y) (Zy ZiH Y) Y Y Y (Nat.le_of_ble_eq_true Y) (Zb Y) Y)<|ZeS [some ⟨80, [[.own 1 y3.length, .own 2 spots2.length, .int .i64 copies, .bool frozen2, .bool false, .int .i64 0, .bool false]]⟩, some ⟨59, List.set (List.map O59 y3) i.toNat [.int .i64 x.Slots, .int .i64 x.Limit, .own 3 x.Sectors.length, .own 4 x.Wear.length, .own 5 x.Bad.length]⟩, some ⟨83, List.map R83 spots2⟩, some ⟨22, List.map O22 x.Sectors⟩, some ⟨3, List.map R3 x.Wear⟩, some ⟨4, List.map R4 x.Bad⟩, some ⟨59, [[.int .i64 x.Slots, .int .i64 x.Limit, .own 3 x.Sectors.length, .own 4 x.Wear.length, .own 5 x.Bad.length]]⟩, some ⟨83, [[.int .i64 y4.sector, .int .i64 y4.slot]]⟩] Y<|Za<|Zf<|K6 7 9 10 37 38 39 Y<|Qm (cw := md0) (by kernel_rfl)<|D1 1 Zc Y<|Dq 2 Y (Zu (ov Y) Y Y)<|Dq 3 Y (Zl (ov Y) Y Y ZeY)<|Dq 4 Y (Zl (ov Y) Y Y ZfD)<|Dq 5 Y (Zt (ov Y) Y Y Y Zju Y)<|Dq 6 Y (QE (ov Y) Y Y Y ZiH Y Y)<|Zlb 7 (.sl 83<|List.map R83 ([y4] : List ring_spot)) Y (by kernel_rfl) Y Y (XX ZjE (.cons (cva<|ov Y) Y (pwD Y) .nil) Y Y)<|ZM 0 _ Y (by kernel_rfl) Y Y (fun hp'=>Zc<|ov Y)<|bE h fun l2 h_l2 h=>Do 8 Y (Xg (ov Y) (Qt (ov Y) tZ_83) ZjE Y Y Y (fun _=>Zb Y) Y h_l2)<|Dq 9 Y (Zu (ov Y) Y Y)<|Dq 10 Y (Zl (ov Y) Y Y ZeY)<|Dq 11 Y (Zl (ov Y) Y Y ZfD)<|Do 12 Y (Zm (ov Y) (ov Y) (Zd Zju) Y Y Y (Nat.le_of_ble_eq_true Y) (Zb Y) Y)<|Dd<|K6 7 9 10 37 38 39 Y<|Xa [some ⟨80, [[.own 1 y3.length, .own 2 l2.length, .int .i64 copies, .bool frozen2, .bool false, .int .i64 0, .bool false]]⟩, some ⟨59, List.set (List.map O59 y3) i.toNat [.int .i64 x.Slots, .int .i64 x.Limit, .own 3 x.Sectors.length, .own 4 x.Wear.length, .own 5 x.Bad.length]⟩, some ⟨83, List.map R83 l2⟩, some ⟨22, List.map O22 x.Sectors⟩, some ⟨3, List.map R3 x.Wear⟩, some ⟨4, List.map R4 x.Bad⟩, some ⟨59, [[.int .i64 x.Slots, .int .i64 x.Limit, .own 3 x.Sectors.length, .own 4 x.Wear.length, .own 5 x.Bad.length]]⟩, some ⟨83, [[.int .i64 y4.sector, .int .i64 y4.slot]]⟩] Y<|Tr<|Rq Y (Zl (ov Y) Y Y ZgJ)<|Rq Y (Zt (ov Y) Y Y Y tS3 Y)<|R2 Zh1 Y<|Za<|K7 7 9 10 37 38 39 59 Y<|If h Y (fun h=>?_) fun h=>?_
     ·
      exact K6 7 9 10 37 38 39 Y<|Tr<|Rq Y (Zl (ov Y) Y Y ZH)<|Rq Y (Zt (ov Y) Y Y Y Ql Y)<|Rq Y (Zl (ov Y) Y Y ZgJ)<|Rq Y (Zt (ov Y) Y Y Y tS3 Y)<|bE h fun x2 h_x2 h=>Rq Y (ZY (ov Y) (ov Y) Z8 Y Y h_x2)<|QW (Ent.focusH (r := 3) (j := 0) (e' := 5) (g := R5) (ys := x2) Y (Zx h_x2).2 Y DR5)<|Rq Y (Zck (ov Y) Y Y (Zx h_x2).2 Zhi Y)<|bE h fun y5 h_y5 h=>Rq Y (J3 (Zbu h_y5) (.tuple<|by simp only [List.mem_cons, List.not_mem_nil, or_false, forall_eq_or_imp, forall_eq]; exact ⟨.int, .bool, .bool⟩)<|.cons (ov Y) (View.ownM Y Y D5) .nil)<|Rm Y<|Rq Y (Zg (ov Y) Y)<|Rq Y (Zg (ov Y) Y)<|Rq Y (Zg (ov Y) Y)<|Ra Y<|Ra Y<|Ra Y<|ZeS [some ⟨80, [[.own 1 y3.length, .own 2 l2.length, .int .i64 copies, .bool frozen2, .bool false, .int .i64 0, .bool false]]⟩, some ⟨59, List.set (List.map O59 y3) i.toNat [.int .i64 x.Slots, .int .i64 x.Limit, .own 3 x.Sectors.length, .own 4 x.Wear.length, .own 5 x.Bad.length]⟩, some ⟨83, List.map R83 l2⟩, some ⟨22, List.set (List.map O22 x.Sectors) y4.sector.toNat [.own 8 x2.length]⟩, some ⟨3, List.map R3 x.Wear⟩, some ⟨4, List.map R4 x.Bad⟩, some ⟨59, [[.int .i64 x.Slots, .int .i64 x.Limit, .own 3 x.Sectors.length, .own 4 x.Wear.length, .own 5 x.Bad.length]]⟩, some ⟨83, [[.int .i64 y4.sector, .int .i64 y4.slot]]⟩, some ⟨5, List.map R5 x2⟩] Y<|QW (Ent.absorbH (r := 3) (j := 0) (q := 8) Y (Zx h_x2).2 Y Y (List.length_map ..) Y)<|QW (Ent.closeS (r := 3) Y (Zx h_x2).2 Y)<|QW (Ent.absorbH (r := 1) (j := 2) (q := 3) Y (Zx h_x).2 Y Y (List.length_map ..) Y)<|QW (Ent.absorbH (r := 1) (j := 3) (q := 4) Y (Zx h_x).2 Y Y (List.length_map ..) Y)<|QW (Ent.absorbH (r := 1) (j := 4) (q := 5) Y (Zx h_x).2 Y Y (List.length_map ..) Y)<|QW (Ent.closeS (r := 1) Y (Zx h_x).2 Y)<|Za<|K5 7 12 37 38 39 Y<|Xa [some ⟨80, [[.own 1 y3.length, .own 2 l2.length, .int .i64 copies, .bool frozen2, .bool false, .int .i64 0, .bool false]]⟩, some ⟨59, List.map O59 y3⟩, some ⟨83, List.map R83 l2⟩, none, none, none, some ⟨59, [[.int .i64 x.Slots, .int .i64 x.Limit, .own 3 x.Sectors.length, .own 4 x.Wear.length, .own 5 x.Bad.length]]⟩, some ⟨83, [[.int .i64 y4.sector, .int .i64 y4.slot]]⟩, none] Y<|Zq<|Rm Y<|Rm Y<|Rq Y (Zu (ov Y) Y Y)<|Rq Y (Zl (ov Y) Y Y ZjA)<|Rq Y (Zt (ov Y) Y Y Y tS4 Y)<|Rm Y<|Rq Y (.guarded (frozen2 == false) Y Y Y Y fun h => Zc<|ov Y)<|Rq Y (Zdw (ov Y) fun hp=>ow Y<|gF hp)<|Rq Y (Zu (ov Y) Y Y)<|Rq Y (Zl (ov Y) Y Y ZjA)<|Rx Y (Zm (ov Y) (ov Y) (Zd tS4) Y Y Y (Nat.le_of_ble_eq_true Y) (Zb Y) Y)<|Za<|K4 7 37 38 39 Y<|Xa [some ⟨80, [[.own 1 y3.length, .own 2 l2.length, .int .i64 copies, .bool (frozen2 || y5.2.1), .bool false, .int .i64 0, .bool false]]⟩, some ⟨59, List.map O59 y3⟩, some ⟨83, List.map R83 l2⟩, none, none, none, some ⟨59, [[.int .i64 x.Slots, .int .i64 x.Limit, .own 3 x.Sectors.length, .own 4 x.Wear.length, .own 5 x.Bad.length]]⟩, some ⟨83, [[.int .i64 y4.sector, .int .i64 y4.slot]]⟩, none] Y<|Zq<|R2 ZI Y<|Rm Y<|Za<|⟨_, h, ES [some 0, some 1, some 2] (hhp := .cons Y (ro1 (by exact tZ_80.symm)<|rlc (.own _ Y)<|rlc (.own _ Y)<|rlc (.dat Y)<|rlc (.dat Y)<|rlc (.dat Y)<|rlc (.dat Y)<|rlc (.dat Y) rln)<|.cons Y (roO XC)<|.cons Y (roM D83) .nil)⟩
     ·
      exact Zh<|K4 7 37 38 39 Y<|Zq<|R2 ZI Y<|Rm Y<|QW (Ent.absorbH (r := 1) (j := 2) (q := 3) Y (Zx h_x).2 Y Y (List.length_map ..) Y)<|QW (Ent.absorbH (r := 1) (j := 3) (q := 4) Y (Zx h_x).2 Y Y (List.length_map ..) Y)<|QW (Ent.absorbH (r := 1) (j := 4) (q := 5) Y (Zx h_x).2 Y Y (List.length_map ..) Y)<|QW (Ent.closeS (r := 1) Y (Zx h_x).2 Y)<|Za<|⟨_, h, ES [some 0, some 1, some 2] (hhp := .cons Y (ro1 (by exact tZ_80.symm)<|rlc (.own _ Y)<|rlc (.own _ Y)<|rlc (.dat Y)<|rlc (.dat Y)<|rlc (.dat Y)<|rlc (.dat Y)<|rlc (.dat Y) rln)<|.cons Y (roO XC)<|.cons Y (roM D83) .nil)⟩
    ·
     refine ZD<|?_
     replace h := lx h ▸ ho1
     exact ⟨_, h, ES [some 0, some 1, some 2] (hhp := .cons Y (ro1 (by exact tZ_80.symm)<|rlc (.own _ Y)<|rlc (.own _ Y)<|rlc (.dat Y)<|rlc (.dat Y)<|rlc (.dat Y)<|rlc (.dat Y)<|rlc (.dat Y) rln)<|.cons Y (roO XC)<|.cons Y (roM D83) .nil)⟩
   ·
    refine Tr<|Rm Y<|Ra Y<|Ra Y<|Za<|?_
    obtain rfl := rt h
    exact Zn<|XY [some 0, some 1, some 2] Y (.cons (.tmp Y)<|.cons (.tmp Y) .nil) (.cons Y (ro1 (by exact tZ_80.symm)<|rlc (.own _ Y)<|rlc (.own _ Y)<|rlc (.dat Y)<|rlc (.dat Y)<|rlc (.dat Y)<|rlc (.dat Y)<|rlc (.dat Y) rln)<|.cons Y (roO XC)<|.cons Y (roM D83) .nil) Y Y<|Qr<|rlc (.ptr _ _ _ Y)<|rlc (.dat Y) rln
end Go.Proofs.YtgohgnaapbpggaaGreatDoor
