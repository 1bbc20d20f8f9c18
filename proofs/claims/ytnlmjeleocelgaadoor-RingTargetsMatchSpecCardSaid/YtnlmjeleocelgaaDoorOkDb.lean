/- A text of the proof: a verified executor of the program form, or the contracts of the functions that the law reaches. -/
import Derived.Test.YtnlmjeleocelgaaDoorOkDa
set_option linter.all false
namespace Go.Proofs.YtnlmjeleocelgaaDoor
open Go Go.Vx
set_option maxRecDepth 10000
set_option maxHeartbeats 2000000
set_option linter.unusedVariables false
theorem ZcV {l : List api_Memory} {r : Int} (h : X3 l = some r) :
 CSpec Tryd.prog gl0 25 [.sl 60 (List.map R60 l)] (.int .i64 r) := by
 unfold X3 at h
 replace h := Z4 h
 refine So Tryd.func25 Y fun w0 A=>Tr<|Ra Y<|Za<|Zi<|K1 0 Y<|Tr<|Rm Y<|Rl tZ_60 Zcm Y<|bE h fun y h_y h=>Rq Y (Zp (ZL h_y)<|.cons (ov Y) (.b Y)<|.cons (ov Y) (.b Y)<|.cons (ov Y) (.b Y) .nil)<|R1 XU Y<|Za<|K2 0 9 Y<|If h Y (fun h=>?_) fun h=>?_
 ·
  refine K0<|Tr<|Ra Y<|Za<|?_
  obtain rfl := rt h
  exact Zq (ZJ Y (.one<|rb Y))
 ·
  refine Zl<|J0 (fun j => (.inr j)) ⟨[], []⟩ h (fun h=>?_) fun h=>?_
  ·
   refine K1 0 Y<|Tr<|Rm Y<|Rl tZ_60 Zcm Y<|Rm Y<|Za<|Zh<|?_
   obtain ⟨r1, hl1, ho1⟩ := QV h
   refine L1 (fun i=>⟨[(10, .sl 60 (List.map R60 l)), (11, .int .i64 (l.length : Int)), (12, .int .i64 i)], []⟩) hl1 (ES []) fun n1 i h=>?_
   unfold JA at h
   refine Tr<|R2 ZV Y<|Za<|Zi<|If h Y (fun h=>?_) fun h=>?_
   ·
    refine Zl<|Zi<|Zh<|K3 10 11 12 Y<|Tr<|bE h fun x h_x h=>Rq Y (Z3 (ov Y) (ov Y) Zcm h_x)<|Rq Y (QW (ov Y) XT Y Y)<|Rx Y (ZW (row := [_, _, _, _, _]) 0 Y ZcK Y tZ_60)<|Rx Y (Zj (ov Y) (ov Y) (Zw XT Y) Y Y Y (Nat.le_of_ble_eq_true Y) (Zb Y) Y)<|Za<|K4 4 10 11 12 Y<|Tr<|Rq Y (Qg (ov Y) Y Y Y XT Y Y)<|bE h fun y2 h_y2 h=>Rq Y (Zp (Zef h_y2)<|.cons (ov Y) (.aggB Y) .nil)<|Ra Y<|Za<|K4 5 10 11 12 Y<|Tr<|Rm Y<|R2 XZ Y<|Za<|K5 5 10 11 12 19 Y<|If h Y (fun h=>?_) fun h=>?_
    ·
     refine K1 5 Y<|Tr<|Rm Y<|Ra Y<|Za<|?_
     replace h := lx h ▸ ho1
     obtain rfl := rt h
     exact Zq (ZJ Y (.one<|rb Y))
    ·
     exact Zl<|K3 10 11 12 Y<|Zu<|R2 ZO Y<|Rm Y<|Za<|⟨_, h, ES []⟩
   ·
    refine ZG<|?_
    replace h := lx h ▸ ho1
    exact ⟨(), h, ES []⟩
  ·
   replace h := elr h
   replace h := t0i h
   refine Tr<|Ra Y<|Za<|?_
   obtain rfl := rt h
   exact Zq (ZJ Y (.one<|rb Y))
theorem ZhN {xs r : List Int} (h : Zdf 1 xs = some r) :
 GSpec Tryd.prog gl0 10 [.sl 5 (List.map R5 xs)] [] (.own 0 r.length) [some ⟨5, List.map R5 r⟩] := by
 have h2 : apz 1 [] xs = some r := h
 refine Qy (by kernel_rfl) Tryd.func10 Y Y<|?_
 intro w0 A W φ0
 refine Tr<|Ra Y<|Za<|Zi<|Zi<|Zu<|Rm Y<|Zhu (ov Y) ZkU Y fun b hb=>?_
 refine Za<|ZhD Y (fun hb2=>?_) fun hb2=>?_
 ·
  obtain rfl : xs = [] := by simpa using hb hb2
  obtain rfl : r = [] := by simpa [app, apz] using h2.symm
  exact Tr<|Ra Y<|Za<|Zq<|Zao [none] Y (.cons (.tmp Y) .nil) (.row 5 .nil) Y Y<|.row Y
 ·
  exact Zl<|Tr<|Rx Y (ZhE (r := 0) (xs := []) (f := R5) Y Qm .nil Y Y Y)<|Rm Y<|Rx Y (ZfD (ov Y) (QR (ov Y) tZ_5) Qm Y Y (fun _=>Zb Y) Y h2)<|Ra Y<|Za<|Zq<|Zao [some 0] Y (.cons (.tmp Y) .nil) (.cons Y (roM D5) .nil) Y Y<|.own _ Y
theorem Zf0 {xs r : List Int} (h : Zdf 8 xs = some r) :
 GSpec Tryd.prog gl0 76 [.sl 3 (List.map R3 xs)] [] (.own 0 r.length) [some ⟨3, List.map R3 r⟩] := by
 have h2 : apz 8 [] xs = some r := h
 refine Qy (by kernel_rfl) Tryd.func76 Y Y<|?_
 intro w0 A W φ0
 refine Tr<|Ra Y<|Za<|Zi<|Zi<|Zu<|Rm Y<|Zhu (ov Y) ZkQ Y fun b hb=>?_
 refine Za<|ZhD Y (fun hb2=>?_) fun hb2=>?_
 ·
  obtain rfl : xs = [] := by simpa using hb hb2
  obtain rfl : r = [] := by simpa [app, apz] using h2.symm
  exact Tr<|Ra Y<|Za<|Zq<|Zao [none] Y (.cons (.tmp Y) .nil) (.row 3 .nil) Y Y<|.row Y
 ·
  exact Zl<|Tr<|Rx Y (ZhE (r := 0) (xs := []) (f := R3) Y QS .nil Y Y Y)<|Rm Y<|Rx Y (ZfD (ov Y) (QR (ov Y) tZ_3) QS Y Y (fun _=>Zb Y) Y h2)<|Ra Y<|Za<|Zq<|Zao [some 0] Y (.cons (.tmp Y) .nil) (.cons Y (roM D3) .nil) Y Y<|.own _ Y
theorem ZfV {xs r : List Bool} (h : Zdf 1 xs = some r) :
 GSpec Tryd.prog gl0 77 [.sl 4 (List.map R4 xs)] [] (.own 0 r.length) [some ⟨4, List.map R4 r⟩] := by
 have h2 : apz 1 [] xs = some r := h
 refine Qy (by kernel_rfl) Tryd.func77 Y Y<|?_
 intro w0 A W φ0
 refine Tr<|Ra Y<|Za<|Zi<|Zi<|Zu<|Rm Y<|Zhu (ov Y) ZkV Y fun b hb=>?_
 refine Za<|ZhD Y (fun hb2=>?_) fun hb2=>?_
 ·
  obtain rfl : xs = [] := by simpa using hb hb2
  obtain rfl : r = [] := by simpa [app, apz] using h2.symm
  exact Tr<|Ra Y<|Za<|Zq<|Zao [none] Y (.cons (.tmp Y) .nil) (.row 4 .nil) Y Y<|.row Y
 ·
  exact Zl<|Tr<|Rx Y (ZhE (r := 0) (xs := []) (f := R4) Y ZgZ .nil Y Y Y)<|Rm Y<|Rx Y (ZfD (ov Y) (QR (ov Y) tZ_4) ZgZ Y Y (fun _=>Zb Y) Y h2)<|Ra Y<|Za<|Zq<|Zao [some 0] Y (.cons (.tmp Y) .nil) (.cons Y (roM D4) .nil) Y Y<|.own _ Y
theorem Zbr {m : api_Memory} {r : api_Memory} (h : X1 m = some r) :
 GSpec Tryd.prog gl0 53 [.agg [.int .i64 m.Slots, .int .i64 m.Limit, .sl 29 (List.map R29 m.Sectors), .sl 3 (List.map R3 m.Wear), .sl 4 (List.map R4 m.Bad)]] [] (.agg [.int .i64 r.Slots, .int .i64 r.Limit, .own 0 r.Sectors.length, .own 1 r.Wear.length, .own 2 r.Bad.length]) [some ⟨29, List.map O29 r.Sectors⟩, some ⟨3, List.map R3 r.Wear⟩, some ⟨4, List.map R4 r.Bad⟩] := by
 unfold X1 at h
 replace h := Z4 h
 refine Qy (by kernel_rfl) Tryd.func53 Y Y<|?_
 intro w0 A W φ0
 refine Tr<|Rx Y (Ziy 0 Y (ov Y) XT Y)<|Rx Y (ZW (row := [_, _, _, _, _]) 1 Y ZcK Y tZ_60)<|Za<|K2 1 2 Y<|Tr<|Ra Y<|Za<|I1 (fun sectors=>⟨[(1, .ptr 0 1 0 0), (2, .ptr 1 1 0 0), (3, .own 2 sectors.length)], [some ⟨60, [[.int .i64 m.Slots, .int .i64 m.Limit, .sl 29 (List.map R29 m.Sectors), .sl 3 (List.map R3 m.Wear), .sl 4 (List.map R4 m.Bad)]]⟩, some ⟨60, [[.int .i64 0, .int .i64 0, .nils, .nils, .nils]]⟩, some ⟨29, List.map O29 sectors⟩]⟩) h (fun h=>?_) fun sectors h=>?_
 ·
  refine Tr<|Rq Y (Zg (ov Y) Y Y ZE)<|Rq Y (Zs (ov Y) Y Y Y Z2 Y)<|Rl tZ_29 ZU Y<|Rm Y<|Za<|Zh<|?_
  obtain ⟨r1, hl1, ho1⟩ := QV h
  refine L2 (fun sectors2 i=>⟨[(1, .ptr 0 1 0 0), (2, .ptr 1 1 0 0), (3, .own 2 sectors2.length), (7, .sl 29 (List.map R29 m.Sectors)), (8, .int .i64 (m.Sectors.length : Int)), (9, .int .i64 i)], [some ⟨60, [[.int .i64 m.Slots, .int .i64 m.Limit, .sl 29 (List.map R29 m.Sectors), .sl 3 (List.map R3 m.Wear), .sl 4 (List.map R4 m.Bad)]]⟩, some ⟨60, [[.int .i64 0, .int .i64 0, .nils, .nils, .nils]]⟩, some ⟨29, List.map O29 sectors2⟩]⟩) hl1 (ES [some 0, some 1, none]) fun n1 sectors2 i h=>?_
  unfold XK at h
  refine Tr<|R2 ZV Y<|Za<|Zi<|If h Y (fun h=>?_) fun h=>?_
  ·
   exact Zl<|Zi<|Zh<|K6 1 2 3 7 8 9 Y<|Tr<|bE h fun x h_x h=>Rq Y (Z3 (ov Y) (ov Y) ZU h_x)<|Rq Y (Zd (ov Y) Zgd Y)<|Ra Y<|Za<|K7 1 2 3 5 7 8 9 Y<|Zu<|Rm Y<|Rm Y<|bE h fun y h_y h=>Rx Y (ZD [] (ZhN h_y) (.cons (ov Y) (.dat Y) .nil) .nil Y (.keep Y Y<|.keep Y Y<|.keep Y Y<|.lent 0 (.inr ⟨Nat.le_of_ble_eq_true Y, Y⟩) Y (roM D5) .nil) Y Y<|.own _<|.inr ⟨Nat.le_of_ble_eq_true Y, Y⟩)<|Rx Y (Qf (r := 4) Y ZU (.cons (cvs (ov Y)<|Zk Y) Y .nil) Y Y)<|bE h fun l h_l h=>Rx Y (ZC (f := O29) (ov Y) (ZP (o := ⟨29, [[.own 3 y.length]]⟩) (ov Y) Y Y tZ_29) ZU Y Y (Zb Y) Y h_l)<|Ra Y<|ZdZ [some ⟨60, [[.int .i64 m.Slots, .int .i64 m.Limit, .sl 29 (List.map R29 m.Sectors), .sl 3 (List.map R3 m.Wear), .sl 4 (List.map R4 m.Bad)]]⟩, some ⟨60, [[.int .i64 0, .int .i64 0, .nils, .nils, .nils]]⟩, some ⟨29, List.set (List.map O29 l) sectors2.length [.own 3 y.length]⟩, some ⟨5, List.map R5 y⟩, some ⟨29, [[.own 3 y.length]]⟩] Y<|Qx (Ent.absorbH (r := 2) (j := 0) (q := 3) Y (Zm h_l) Y Y (List.length_map ..) Y)<|Qx (Ent.closeS (r := 2) Y (Zm h_l) Y)<|Za<|K6 1 2 3 7 8 9 Y<|QI [some ⟨60, [[.int .i64 m.Slots, .int .i64 m.Limit, .sl 29 (List.map R29 m.Sectors), .sl 3 (List.map R3 m.Wear), .sl 4 (List.map R4 m.Bad)]]⟩, some ⟨60, [[.int .i64 0, .int .i64 0, .nils, .nils, .nils]]⟩, some ⟨29, List.map O29 l⟩, none, some ⟨29, [[.own 3 y.length]]⟩] Y<|Zu<|R2 ZO Y<|Rm Y<|Za<|⟨_, h, ES [some 0, some 1, some 2] (hhp := .cons Y (ro1 (by exact tZ_60.symm)<|rld Y)<|.cons Y (ro1 (by exact tZ_60.symm)<|rld Y)<|.cons Y (roO Q8) .nil)⟩
  ·
   refine ZG<|?_
   replace h := lx h ▸ ho1
   exact ⟨_, h, ES [some 0, some 1, some 2] (hhp := .cons Y (ro1 (by exact tZ_60.symm)<|rld Y)<|.cons Y (ro1 (by exact tZ_60.symm)<|rld Y)<|.cons Y (roO Q8) .nil)⟩
 ·
  refine Zi<|Ql (cw := ⟨true, true, [some ⟨60, [[.int .i64 m.Slots, .int .i64 m.Limit, .sl 29 (List.map R29 m.Sectors), .sl 3 (List.map R3 m.Wear), .sl 4 (List.map R4 m.Bad)]]⟩, some ⟨60, [[.int .i64 0, .int .i64 0, .nils, .nils, .nils]]⟩, some ⟨29, List.map O29 sectors⟩], [], [0]⟩) (by kernel_rfl)<|Dq 1 Y (Zg (ov Y) Y Y ZeH)<|Dq 2 Y (Zs (ov Y) Y Y Y Zip Y)<|ZY 0 _ Y (by kernel_rfl) Y Y (fun hp'=>Zc<|ov Y)<|Xc 4 _ Y (by kernel_rfl) Y Y Y (EL.ext<|.wr Y Y Y<|.keep<|.keep .nil) (fun hp' hx=>exW (r := 0) hx Y fun _ ho hn => Zg (ov Y) ho hn ZfA)<|bE h fun y2 h_y2 h=>ZjQ 5 3 Y Y (by kernel_rfl) Y Y Y Y (fun h=>by cases h) (fun _=>by exact EL.ext (.wr rfl rfl rfl <| .keep <| .keep <| .nil)) (Zs (ov Y) Y Y Y Zij Y) (ZD [] (Zf0 h_y2) (.cons (ov Y) (.dat Y) .nil) .nil Y (.keep Y Y<|.keep Y Y<|.keep Y Y<|.lent 0 (.inr ⟨Nat.le_of_ble_eq_true Y, Y⟩) Y (roM D3) .nil) Y Y<|.own _<|.inr ⟨Nat.le_of_ble_eq_true Y, Y⟩) ?_ ?_
  ·
   refine Xc 7 _ Y (by kernel_rfl) Y Y Y (EL.ext<|.wr Y Y Y<|.keep<|.keep .nil) (fun hp' hx=>exW (r := 0) hx Y fun _ ho hn => Zg (ov Y) ho hn ZE)<|Ja 3 _ _ Y (by kernel_rfl) Y Y (fun h=>by cases h) (fun _=>by exact EL.ext (.wr rfl rfl rfl <| .keep <| .keep <| .nil)) (ZD [] (Zf0 h_y2) (.cons (ov Y) (.dat Y) .nil) .nil Y (.keep Y Y<|.keep Y Y<|.keep Y Y<|.lent 0 (.inr ⟨Nat.le_of_ble_eq_true Y, Y⟩) Y (roM D3) .nil) Y Y<|.own _<|.inr ⟨Nat.le_of_ble_eq_true Y, Y⟩)<|bE h fun y3 h_y3 h=>Ja 6 _ _ Y (by kernel_rfl) Y Y (fun h=>by cases h) (fun _=>by exact EL.ext (.wr rfl rfl rfl <| .keep <| .keep <| .nil)) (ZD [] (ZfV h_y3) (.cons (ov Y) (.dat Y) .nil) .nil Y (.keep Y Y<|.keep Y Y<|.keep Y Y<|.keep Y Y<|.lent 0 (.inr ⟨Nat.le_of_ble_eq_true Y, Y⟩) Y (roM D4) .nil) Y Y<|.own _<|.inr ⟨Nat.le_of_ble_eq_true Y, Y⟩)<|Ja 8 _ _ Y (by kernel_rfl) Y Y (fun h=>by cases h) (fun _=>by exact EL.ext (.wr rfl rfl rfl <| .keep <| .keep <| .nil)) (Zj (ov Y) (ov Y) (Ze Z2) Y Y Y (Nat.le_of_ble_eq_true Y) (Zb Y) Y)<|Dq 9 Y (Zg (ov Y) Y Y ZeH)<|Ja 10 _ _ Y (by kernel_rfl) Y Y (fun h=>by cases h) (fun _=>by exact EL.ext (.wr rfl rfl rfl <| .keep <| .keep <| .nil)) (Zj (ov Y) (ov Y) (Ze Zip) Y Y Y (Nat.le_of_ble_eq_true Y) (Zb Y) Y)<|Dq 11 Y (Zg (ov Y) Y Y ZfA)<|Ja 12 _ _ Y (by kernel_rfl) Y Y (fun h=>by cases h) (fun _=>by exact EL.ext (.wr rfl rfl rfl <| .keep <| .keep <| .nil)) (Zj (ov Y) (ov Y) (Ze Zij) Y Y Y (Nat.le_of_ble_eq_true Y) (Zb Y) Y)<|Dd<|K2 1 2 Y<|QI [some ⟨60, [[.int .i64 m.Slots, .int .i64 m.Limit, .own 2 sectors.length, .own 3 y2.length, .own 4 y3.length]]⟩, some ⟨60, [[.int .i64 0, .int .i64 0, .nils, .nils, .nils]]⟩, some ⟨29, List.map O29 sectors⟩, some ⟨3, List.map R3 y2⟩, some ⟨4, List.map R4 y3⟩] Y<|Tr<|Rq Y (Qg (ov Y) Y Y Y XT Y Y)<|Rx Y (Zj (ov Y) (ov Y) (Zw XT Y) Y Y Y (Nat.le_of_ble_eq_true Y) (Zb Y) Y)<|Za<|?_
   obtain rfl := rt h
   exact Zq<|Zao [some 2, some 3, some 4] Y (.cons (.agg Y Y Y Y XT Y Y) .nil) (.cons Y (roO Q8)<|.cons Y (roM D3)<|.cons Y (roM D4) .nil) Y Y<|Zdy<|rlc (.dat Y)<|rlc (.dat Y)<|rlc (.own _ Y)<|rlc (.own _ Y)<|rlc (.own _ Y) rln
  ·
   refine Dq 5 Y (Zs (ov Y) Y Y Y Zij Y)<|Xc 7 _ Y (by kernel_rfl) Y Y Y (EL.ext<|.wr Y Y Y<|.keep<|.keep .nil) (fun hp' hx=>exW (r := 0) hx Y fun _ ho hn => Zg (ov Y) ho hn ZE)<|bE h fun y3 h_y3 h=>Ja 6 _ _ Y (by kernel_rfl) Y Y (fun h=>by cases h) (fun _=>by exact EL.ext (.wr rfl rfl rfl <| .keep <| .keep <| .nil)) (ZD [] (ZfV h_y3) (.cons (ov Y) (.dat Y) .nil) .nil Y (.keep Y Y<|.keep Y Y<|.keep Y Y<|.keep Y Y<|.lent 0 (.inr ⟨Nat.le_of_ble_eq_true Y, Y⟩) Y (roM D4) .nil) Y Y<|.own _<|.inr ⟨Nat.le_of_ble_eq_true Y, Y⟩)<|Ja 8 _ _ Y (by kernel_rfl) Y Y (fun h=>by cases h) (fun _=>by exact EL.ext (.wr rfl rfl rfl <| .keep <| .keep <| .nil)) (Zj (ov Y) (ov Y) (Ze Z2) Y Y Y (Nat.le_of_ble_eq_true Y) (Zb Y) Y)<|Dq 9 Y (Zg (ov Y) Y Y ZeH)<|Ja 10 _ _ Y (by kernel_rfl) Y Y (fun h=>by cases h) (fun _=>by exact EL.ext (.wr rfl rfl rfl <| .keep <| .keep <| .nil)) (Zj (ov Y) (ov Y) (Ze Zip) Y Y Y (Nat.le_of_ble_eq_true Y) (Zb Y) Y)<|Dq 11 Y (Zg (ov Y) Y Y ZfA)<|Ja 12 _ _ Y (by kernel_rfl) Y Y (fun h=>by cases h) (fun _=>by exact EL.ext (.wr rfl rfl rfl <| .keep <| .keep <| .nil)) (Zj (ov Y) (ov Y) (Ze Zij) Y Y Y (Nat.le_of_ble_eq_true Y) (Zb Y) Y)<|Dd<|K2 1 2 Y<|QI [some ⟨60, [[.int .i64 m.Slots, .int .i64 m.Limit, .own 2 sectors.length, .own 3 y2.length, .own 4 y3.length]]⟩, some ⟨60, [[.int .i64 0, .int .i64 0, .nils, .nils, .nils]]⟩, some ⟨29, List.map O29 sectors⟩, some ⟨3, List.map R3 y2⟩, some ⟨4, List.map R4 y3⟩] Y<|Tr<|Rq Y (Qg (ov Y) Y Y Y XT Y Y)<|Rx Y (Zj (ov Y) (ov Y) (Zw XT Y) Y Y Y (Nat.le_of_ble_eq_true Y) (Zb Y) Y)<|Za<|?_
   obtain rfl := rt h
   exact Zq<|Zao [some 2, some 3, some 4] Y (.cons (.agg Y Y Y Y XT Y Y) .nil) (.cons Y (roO Q8)<|.cons Y (roM D3)<|.cons Y (roM D4) .nil) Y Y<|Zdy<|rlc (.dat Y)<|rlc (.dat Y)<|rlc (.own _ Y)<|rlc (.own _ Y)<|rlc (.own _ Y) rln
theorem Zfk {l : List api_Memory} {r : (List api_Memory)} (h : Xf l = some r) :
 GSpec Tryd.prog gl0 31 [.sl 60 (List.map R60 l)] [] (.own 0 r.length) [some ⟨60, List.map O60 r⟩] := by
 unfold Xf at h
 replace h := Z4 h
 refine Qy (by kernel_rfl) Tryd.func31 Y Y<|?_
 intro w0 A W φ0
 refine Tr<|Ra Y<|Za<|K1 0 Y<|Tr<|Ra Y<|Za<|I1 (fun out=>⟨[(3, .own 0 out.length)], [some ⟨60, List.map O60 out⟩]⟩) h (fun h=>?_) fun out h=>?_
 ·
  refine Tr<|Rm Y<|Rl tZ_60 Zcm Y<|Rm Y<|Za<|Zh<|?_
  obtain ⟨r1, hl1, ho1⟩ := QV h
  refine L2 (fun out2 i=>⟨[(3, .own 0 out2.length), (6, .sl 60 (List.map R60 l)), (7, .int .i64 (l.length : Int)), (8, .int .i64 i)], [some ⟨60, List.map O60 out2⟩]⟩) hl1 (ES [none]) fun n1 out2 i h=>?_
  unfold XX at h
  refine Tr<|R2 ZV Y<|Za<|Zi<|If h Y (fun h=>?_) fun h=>?_
  ·
   exact Zl<|Zi<|Zh<|K4 3 6 7 8 Y<|Tr<|bE h fun x h_x h=>Rq Y (Z3 (ov Y) (ov Y) Zcm h_x)<|Rq Y (QW (ov Y) XT Y Y)<|Rx Y (ZW (row := [_, _, _, _, _]) 1 Y ZcK Y tZ_60)<|Rx Y (Zj (ov Y) (ov Y) (Zw XT Y) Y Y Y (Nat.le_of_ble_eq_true Y) (Zb Y) Y)<|Za<|K5 3 5 6 7 8 Y<|QI [some ⟨60, List.map O60 out2⟩, some ⟨60, [[.int .i64 x.Slots, .int .i64 x.Limit, .sl 29 (List.map R29 x.Sectors), .sl 3 (List.map R3 x.Wear), .sl 4 (List.map R4 x.Bad)]]⟩] Y<|Zu<|Rm Y<|Rq Y (Qg (ov Y) Y Y Y XT Y Y)<|bE h fun y h_y h=>Rx Y (ZD [] (Zbr h_y) (.cons (ov Y) (Zdy<|rld Y) .nil) .nil Y (.keep Y Y<|.keep Y Y<|.lent 0 (.inr ⟨Nat.le_of_ble_eq_true Y, Y⟩) Y (roO Q8)<|.lent 1 (.inr ⟨Nat.le_of_ble_eq_true Y, Y⟩) Y (roM D3)<|.lent 2 (.inr ⟨Nat.le_of_ble_eq_true Y, Y⟩) Y (roM D4) .nil) Y Y<|Zdy<|rlc (.dat Y)<|rlc (.dat Y)<|rlc (.own _<|.inr ⟨Nat.le_of_ble_eq_true Y, Y⟩)<|rlc (.own _<|.inr ⟨Nat.le_of_ble_eq_true Y, Y⟩)<|rlc (.own _<|.inr ⟨Nat.le_of_ble_eq_true Y, Y⟩) rln)<|Rx Y (Qf (r := 5) Y Zcm (.cons (cva<|ov Y) Y .nil) Y Y)<|bE h fun l2 h_l2 h=>Rx Y (ZC (f := O60) (ov Y) (ZP (o := ⟨60, [[.int .i64 y.Slots, .int .i64 y.Limit, .own 2 y.Sectors.length, .own 3 y.Wear.length, .own 4 y.Bad.length]]⟩) (ov Y) Y Y tZ_60) Zcm Y Y (Zb Y) Y h_l2)<|Ra Y<|ZdZ [some ⟨60, List.set (List.map O60 l2) out2.length [.int .i64 y.Slots, .int .i64 y.Limit, .own 2 y.Sectors.length, .own 3 y.Wear.length, .own 4 y.Bad.length]⟩, some ⟨60, [[.int .i64 x.Slots, .int .i64 x.Limit, .sl 29 (List.map R29 x.Sectors), .sl 3 (List.map R3 x.Wear), .sl 4 (List.map R4 x.Bad)]]⟩, some ⟨29, List.map O29 y.Sectors⟩, some ⟨3, List.map R3 y.Wear⟩, some ⟨4, List.map R4 y.Bad⟩, some ⟨60, [[.int .i64 y.Slots, .int .i64 y.Limit, .own 2 y.Sectors.length, .own 3 y.Wear.length, .own 4 y.Bad.length]]⟩] Y<|Qx (Ent.absorbH (r := 0) (j := 2) (q := 2) Y (Zm h_l2) Y Y (List.length_map ..) Y)<|Qx (Ent.absorbH (r := 0) (j := 3) (q := 3) Y (Zm h_l2) Y Y (List.length_map ..) Y)<|Qx (Ent.absorbH (r := 0) (j := 4) (q := 4) Y (Zm h_l2) Y Y (List.length_map ..) Y)<|Qx (Ent.closeS (r := 0) Y (Zm h_l2) Y)<|Za<|K4 3 6 7 8 Y<|QI [some ⟨60, List.map O60 l2⟩, some ⟨60, [[.int .i64 x.Slots, .int .i64 x.Limit, .sl 29 (List.map R29 x.Sectors), .sl 3 (List.map R3 x.Wear), .sl 4 (List.map R4 x.Bad)]]⟩, none, none, none, some ⟨60, [[.int .i64 y.Slots, .int .i64 y.Limit, .own 2 y.Sectors.length, .own 3 y.Wear.length, .own 4 y.Bad.length]]⟩] Y<|Zu<|R2 ZO Y<|Rm Y<|Za<|⟨_, h, ES [some 0] (hhp := .cons Y (roO Q9) .nil)⟩
  ·
   refine ZG<|?_
   replace h := lx h ▸ ho1
   exact ⟨_, h, ES [some 0] (hhp := .cons Y (roO Q9) .nil)⟩
 ·
  refine Tr<|Rm Y<|Ra Y<|Za<|?_
  obtain rfl := rt h
  exact Zq<|Zao [some 0] Y (.cons (.tmp Y) .nil) (.cons Y (roO Q9) .nil) Y Y<|.own _ Y
theorem ZdF {sequence : Int} {r : (List Int)} (h : Zah sequence = some r) :
 CSpec Tryd.prog gl0 49 [.int .i64 sequence] (.sl 5 (List.map R5 r)) := by
 unfold Zah at h
 replace h := Z4 h
 refine So Tryd.func49 Y fun w0 A=>Tr<|Ra Y<|Za<|K1 0 Y<|Tr<|Rx Y (ZhE (r := 0) (xs := ([79, 66] : List Int)) (f := R5) Y Qm (.cons (cvs (ov Y)<|Zk Y) Y (.cons (.b Y) .nil)<|.cons (cvs (ov Y)<|Zk Y) Y (.cons (.b Y) .nil) .nil) Y Y Y)<|Ra Y<|Za<|I1 (fun out=>⟨[(3, .own 0 out.length)], [some ⟨5, List.map R5 out⟩]⟩) h (fun h=>?_) fun out h=>?_
 ·
  refine K2 0 3 Y<|Tr<|Ra Y<|Za<|Zh<|?_
  obtain ⟨r1, hl1, ho1⟩ := QV h
  refine L2 (fun out2 shift=>⟨[(0, .int .i64 sequence), (3, .own 0 out2.length), (4, .int .i64 shift)], [some ⟨5, List.map R5 out2⟩]⟩) hl1 (ES [some 0]) fun n1 out2 shift h=>?_
  unfold ZaU at h
  refine Zi<|Tr<|Rm Y<|R2 ZgG Y<|Za<|K4 0 3 4 9 Y<|If h Y (fun h=>?_) fun h=>?_
  ·
   exact Zl<|Zi<|Zh<|K3 0 3 4 Y<|Zu<|Rm Y<|Rm Y<|Rm Y<|bE h fun q h_q h=>Rq Y (ZbH (ov Y) (ov Y) h_q)<|Rq Y (Qi (ov Y) tI3 tI5 Y)<|R_q (.sl 5<|List.map R5 ([(u8 q)] : List Int)) Y (XH Qm (.cons (cvs (ov Y)<|Zk Y) Y (.cons (.b Y) .nil) .nil) Y Y)<|bE h fun l h_l h=>Rx Y (QA (ov Y) (QR (ov Y) tZ_5) Qm Y Y Y (fun _=>Zb Y) Y h_l)<|Ra Y<|Za<|K3 0 3 4 Y<|Zu<|Rm Y<|R2 ZgB Y<|Ra Y<|Za<|⟨_, h, ES [some 0]⟩
  ·
   refine ZG<|?_
   replace h := lx h ▸ ho1
   exact ⟨_, h, ES [some 0]⟩
 ·
  refine I1 (fun out3=>⟨[(3, .own 0 out3.length)], [some ⟨5, List.map R5 out3⟩]⟩) h (fun h=>?_) fun out3 h=>?_
  ·
   refine Tr<|Rm Y<|bE h fun u h_u h=>Rq Y (Zkt (ov Y) Y Y Qm (oi<|ov Y) (oi<|ov Y) h_u)<|Rq Y (Zjk (ov Y) Y (List.length_map ..) Qm)<|Rm Y<|Za<|Zh<|?_
   obtain ⟨r2, hl2, ho2⟩ := QV h
   refine ZjS (τ := Option (List Int)) _ (fun b s=>Option.elim b (t2 (fun out4 i=>(⟨[(3, .own 0 out4.length), (20, .osl 0 out4.length (Int.toNat 2) (Int.toNat (6 - 2))), (21, .int .i64 ((Int.toNat (6 - 2) : Nat) : Int)), (22, .int .i64 i)], [some ⟨5, List.map R5 out4⟩]⟩ : St)) s) fun old2=>t2 (fun out4 i=>(⟨[(3, .own 1 out4.length), (20, .osl 0 old2.length (Int.toNat 2) (Int.toNat (6 - 2))), (21, .int .i64 ((Int.toNat (6 - 2) : Nat) : Int)), (22, .int .i64 i)], [some ⟨5, List.map R5 old2⟩, some ⟨5, List.map R5 out4⟩]⟩ : St)) s) (fun b s => ∃ tl, Option.getD b s.1 = out ++ tl) none _ hl2 Zjr (Ent.sel [some 0] (sr 3 Y (.own _ Y)<|sr 20 Y (.osl _ _ _ Y)<|sd 21 Y Y<|sd 22 Y Y sn) (.cons Y (roM D5) .nil) Y Y) fun b2 n2 s2 hC h=>?_
   obtain ⟨out4, i⟩ := s2
   replace h := t2i h
   unfold ZaE at h
   rcases b2 with _ | old2
   ·
    replace hC : ∃ tl, out4 = out ++ tl := hC
    show T _ _ ⟨[(3, .own 0 out4.length), (20, .osl 0 out4.length (Int.toNat 2) (Int.toNat (6 - 2))), (21, .int .i64 ((Int.toNat (6 - 2) : Nat) : Int)), (22, .int .i64 i)], [some ⟨5, List.map R5 out4⟩]⟩ _
    refine Tr<|R2 ZV Y<|Za<|Zi<|If h Y (fun h=>?_) fun h=>?_
    ·
     refine Zl<|Zi<|Zh<|K4 3 20 21 22 Y<|Tr<|bE h fun u2 h_u2 h=>bE h fun x2 h_x2 h=>?_
     have h_x2P := ZiN hC h_x2
     refine Rq Y (Zjn (ov Y) (ov Y) Qm Y Y (ZeW h_u).1 h_u2 h_x2P)<|Rq Y (XD (ov Y) Y Y h_x2P tS5 Y)<|Ra Y<|Za<|K5 3 6 20 21 22 Y<|Zu<|Rm Y<|Rm Y<|R1 ZiH Y<|R_q (.sl 5<|List.map R5 ([(ZdV .u8 255 x2)] : List Int)) Y (XH Qm (.cons (cvs (ov Y)<|Zk Y) Y (.cons (.b Y) .nil) .nil) Y Y)<|bE h fun l2 h_l2 h=>ZjU (f := R5) (tp := 20) (ys := ([(ZdV .u8 255 x2)] : List Int)) Y (ov Y) (QR (ov Y) tZ_5) Qm Y Y Y (fun _=>Zb Y) Y (fun _=>nsR Y) h_l2 Y ?_ ?_
     ·
      exact Ra Y<|Za<|K4 3 20 21 22 Y<|Zu<|R2 ZO Y<|Rm Y<|Za<|⟨none, (l2, (i64 (i + 1))), Zkd hC h_l2, h, Ent.sel [some 0] (sr 3 Y (.own _ Y) <| sr 20 Y (.osl _ _ _ Y) <| sd 21 Y Y <| sd 22 Y Y <| sn) (.cons Y (roM D5) <| .nil) Y Y⟩
     ·
      exact Ra Y<|Za<|K4 3 20 21 22 Y<|Zu<|R2 ZO Y<|Rm Y<|Za<|⟨some out4, (l2, (i64 (i + 1))), hC, h, Ent.sel [some 0, some 1] (sr 3 Y (.own _ Y) <| sr 20 Y (.osl _ _ _ Y) <| sd 21 Y Y <| sd 22 Y Y <| sn) (.cons Y (roM D5) <| .cons Y (roM D5) <| .nil) Y Y⟩
    ·
     refine ZG<|?_
     replace h := lx h ▸ ho2
     exact ⟨_, h, ES [some 0]⟩
   ·
    replace hC : ∃ tl, old2 = out ++ tl := hC
    show T _ _ ⟨[(3, .own 1 out4.length), (20, .osl 0 old2.length (Int.toNat 2) (Int.toNat (6 - 2))), (21, .int .i64 ((Int.toNat (6 - 2) : Nat) : Int)), (22, .int .i64 i)], [some ⟨5, List.map R5 old2⟩, some ⟨5, List.map R5 out4⟩]⟩ _
    refine Tr<|R2 ZV Y<|Za<|Zi<|If h Y (fun h=>?_) fun h=>?_
    ·
     refine Zl<|Zi<|Zh<|K4 3 20 21 22 Y<|Tr<|bE h fun u2 h_u2 h=>bE h fun x2 h_x2 h=>?_
     have h_x2P := ZiN hC h_x2
     exact Rq Y (Zjn (ov Y) (ov Y) Qm Y Y (ZeW h_u).1 h_u2 h_x2P)<|Rq Y (XD (ov Y) Y Y h_x2P tS5 Y)<|Ra Y<|Za<|K5 3 6 20 21 22 Y<|Zu<|Rm Y<|Rm Y<|R1 ZiH Y<|R_q (.sl 5<|List.map R5 ([(ZdV .u8 255 x2)] : List Int)) Y (XH Qm (.cons (cvs (ov Y)<|Zk Y) Y (.cons (.b Y) .nil) .nil) Y Y)<|bE h fun l2 h_l2 h=>Rx Y (QA (ov Y) (QR (ov Y) tZ_5) Qm Y Y Y (fun _=>Zb Y) Y h_l2)<|Ra Y<|Za<|K4 3 20 21 22 Y<|Zu<|R2 ZO Y<|Rm Y<|Za<|⟨some old2, (l2, (i64 (i + 1))), hC, h, Ent.sel [some 0, some 1] (sr 3 Y (.own _ Y) <| sr 20 Y (.osl _ _ _ Y) <| sd 21 Y Y <| sd 22 Y Y <| sn) (.cons Y (roM D5) <| .cons Y (roM D5) <| .nil) Y Y⟩
    ·
     refine ZG<|?_
     replace h := lx h ▸ ho2
     exact ⟨_, h, ES [some 1]⟩
  ·
   refine Tr<|Rm Y<|Ra Y<|Za<|?_
   obtain rfl := rt h
   exact Zq (ZJ Y (.one<|.tmp Y<|View.ownM Y Y D5))
theorem Zct {s1 : List Int} {s2 : List Int} {r : Bool} (h : Qn s1 s2 = some r) :
 CSpec Tryd.prog gl0 48 [.sl 5 (List.map R5 s1), .sl 5 (List.map R5 s2)] (.bool r) := by
 unfold Qn at h
 replace h := Z4 h
 refine So Tryd.func48 Y fun w0 A=>Tr<|Ra Y<|Za<|Zi<|K2 0 1 Y<|Tr<|Rm Y<|Rl tZ_5 Qm Y<|Rm Y<|Rl tZ_5 Qm Y<|R2 XZ Y<|Za<|K3 0 1 10 Y<|If h Y (fun h=>?_) fun h=>?_
 ·
  refine K0<|Tr<|Ra Y<|Za<|?_
  obtain rfl := rt h
  exact Zq (ZJ Y (.one<|rb Y))
 ·
  refine Zl<|J0 (fun j => (.inr j)) ⟨[], []⟩ h (fun h=>?_) fun h=>?_
  ·
   refine K2 0 1 Y<|Tr<|Rm Y<|Rl tZ_5 Qm Y<|Rm Y<|Za<|Zh<|?_
   obtain ⟨r1, hl1, ho1⟩ := QV h
   refine L1 (fun i=>⟨[(0, .sl 5 (List.map R5 s1)), (1, .sl 5 (List.map R5 s2)), (12, .int .i64 (s1.length : Int)), (13, .int .i64 i)], []⟩) hl1 (ES []) fun n1 i h=>?_
   unfold Qv at h
   refine Tr<|R2 ZV Y<|Za<|Zi<|If h Y (fun h=>?_) fun h=>?_
   ·
    refine Zl<|Zi<|Zh<|K4 0 1 12 13 Y<|Tr<|Rm Y<|Ra Y<|Za<|Zi<|K5 0 1 5 12 13 Y<|Ql (cw := md0) (by kernel_rfl)<|D1 0 Zc Y<|D1 1 Zc Y<|bE h fun x h_x h=>Dq 2 Y (Z3 (ov Y) (ov Y) Qm h_x)<|Dq 3 Y (Zd (ov Y) tS5 Y)<|D1 4 Zc Y<|D1 5 Zc Y<|bE h fun x2 h_x2 h=>Dq 6 Y (Z3 (ov Y) (ov Y) Qm h_x2)<|Dq 7 Y (Zd (ov Y) tS5 Y)<|D2 8 XZ Y<|Dd<|K5 0 1 12 13 24 Y<|If h Y (fun h=>?_) fun h=>?_
    ·
     refine K0<|Tr<|Ra Y<|Za<|?_
     replace h := lx h ▸ ho1
     obtain rfl := rt h
     exact Zq (ZJ Y (.one<|rb Y))
    ·
     exact Zl<|K4 0 1 12 13 Y<|Zu<|R2 ZO Y<|Rm Y<|Za<|⟨_, h, ES []⟩
   ·
    refine ZG<|?_
    replace h := lx h ▸ ho1
    exact ⟨(), h, ES []⟩
  ·
   replace h := elr h
   replace h := t0i h
   refine Tr<|Ra Y<|Za<|?_
   obtain rfl := rt h
   exact Zq (ZJ Y (.one<|rb Y))
theorem Zaw {s : List Int} {r : Int × Bool × Bool} (h : Ju s = some r) :
 CSpec Tryd.prog gl0 27 [.sl 5 (List.map R5 s)] (.tuple [.int .i64 r.1, .bool r.2.1, .bool r.2.2]) := by
 unfold Ju at h
 replace h := Z4 h
 refine So Tryd.func27 Y fun w0 A=>Tr<|Ra Y<|Ra Y<|Ra Y<|Za<|Zi<|K1 0 Y<|Tr<|Rm Y<|Rl tZ_5 Qm Y<|R2 ZV Y<|Za<|K2 0 9 Y<|If h Y (fun h=>?_) fun h=>?_
 ·
  refine K0<|Tr<|Ra Y<|Ra Y<|Ra Y<|Za<|?_
  obtain rfl := rt h
  exact Zq (ZJ Y (.three (rb Y) (rb Y)<|rb Y))
 ·
  refine Zl<|K1 0 Y<|Tr<|Rm Y<|bE h fun l h_l h=>Rq Y (Zgp (ov Y) Qm on (oi<|ov Y) h_l)<|bE h fun v h_v h=>Rq Y (Zis (f := C5) (ov Y) ZgJ tZ_5 Y h_v)<|Ra Y<|Za<|Zi<|K1 5 Y<|Ql (cw := md0) (by kernel_rfl)<|D1 0 Zc Y<|D1 1 ZA Y<|bE h fun x h_x h=>Dq 2 Y (Qr (ov Y) (ov Y) ZgJ h_x)<|Dq 3 Y (Zd (ov Y) tS5<|Qd<|Q1 (o := 0) (o' := ((Int.toNat 2) * 1)) (Zr arL)<|Q4 h_x)<|Dq 4 Y (Qi (ov Y) tI5 tI3 Y)<|bE h fun q h_q h=>Dq 5 Y (Zc0 (ov Y) (ov Y) h_q)<|D1 6 Zc Y<|D1 7 ZA Y<|bE h fun x2 h_x2 h=>Dq 8 Y (Qr (ov Y) (ov Y) ZgJ h_x2)<|Dq 9 Y (Zd (ov Y) tS5<|Qd<|Q1 (o := 0) (o' := ((Int.toNat 3) * 1)) (Zr arL)<|Q4 h_x2)<|Dq 10 Y (Qi (ov Y) tI5 tI3 Y)<|bE h fun q2 h_q2 h=>Dq 11 Y (Zc0 (ov Y) (ov Y) h_q2)<|D2 12 Zep Y<|D1 13 Zc Y<|D1 14 ZA Y<|bE h fun x3 h_x3 h=>Dq 15 Y (Qr (ov Y) (ov Y) ZgJ h_x3)<|Dq 16 Y (Zd (ov Y) tS5<|Qd<|Q1 (o := 0) (o' := ((Int.toNat 4) * 1)) (Zr arL)<|Q4 h_x3)<|Dq 17 Y (Qi (ov Y) tI5 tI3 Y)<|bE h fun q3 h_q3 h=>Dq 18 Y (Zc0 (ov Y) (ov Y) h_q3)<|D2 19 Zep Y<|D1 20 Zc Y<|D1 21 ZA Y<|bE h fun x4 h_x4 h=>Dq 22 Y (Qr (ov Y) (ov Y) ZgJ h_x4)<|Dq 23 Y (Zd (ov Y) tS5<|Qd<|Q1 (o := 0) (o' := ((Int.toNat 5) * 1)) (Zr arL)<|Q4 h_x4)<|Dq 24 Y (Qi (ov Y) tI5 tI3 Y)<|D2 25 Zep Y<|D1 26 Z9 Y<|Dd<|Zi<|Zi<|K2 5 6 Y<|Ql (cw := md0) (by kernel_rfl)<|D1 0 Zc Y<|bE h fun y h_y h=>Dq 1 Y (Zp (ZL h_y)<|.cons (ov Y) (.b Y)<|.cons (ov Y) (.b Y)<|.cons (ov Y) (.b Y) .nil)<|D1 2 XU Y<|D1 3 Zc Y<|Dq 4 Y (.guarded ((!y) == false) Y Y Y Y fun h => Zc<|ov Y)<|Dq 5 Y (.guarded ((!y) == false) Y Y Y Y fun h => ZA<|ow Y h)<|bE h fun l2 h_l2 h=>Dq 6 Y (.guarded ((!y) == false) Y Y Y Y fun h => ZiD (f := C5) (ow Y h) ZgJ tZ_5 (Zr arL) Y on (oi<|ov Y)<|gdT h_l2 h)<|Dq 7 Y (.guarded ((!y) == false) Y Y Y Y fun h => Zc<|ov Y)<|bE h fun y2 h_y2 h=>Dq 8 Y (.guarded ((!y) == false) Y Y Y Y fun h => Zp (ZdF<|gdT h_y2 h)<|.cons (ow Y h) (.b Y) .nil)<|bE h fun y3 h_y3 h=>Dq 9 Y (.guarded ((!y) == false) Y Y Y Y fun h => Zp (Zct<|gdT h_y3 h)<|.cons (ow Y h) (.b Y)<|.cons (ow Y h) (.b Y) .nil)<|Dq 10 Y (.guarded ((!y) == false) Y Y Y Y fun h => XU<|ow Y h)<|Dq 11 Y (Zdv (ov Y) fun hp=>ow Y<|gF hp)<|Dd<|K3 5 6 50 Y<|If h Y (fun h=>?_) fun h=>?_
  ·
   refine K0<|Tr<|Ra Y<|Ra Y<|Ra Y<|Za<|?_
   obtain rfl := rt h
   exact Zq (ZJ Y (.three (rb Y) (rb Y)<|rb Y))
  ·
   refine Zl<|Zi<|K2 5 6 Y<|Ql (cw := md0) (by kernel_rfl)<|D1 0 Zc Y<|D1 1 Zc Y<|D1 2 ZA Y<|bE h fun x5 h_x5 h=>Dq 3 Y (Qr (ov Y) (ov Y) ZgJ h_x5)<|Dq 4 Y (Zd (ov Y) tS5<|Qd<|Q1 (o := 0) (o' := ((Int.toNat 10) * 1)) (Zr arL)<|Q4 h_x5)<|D2 5 XZ Y<|D1 6 Z9 Y<|D1 7 Z9 Y<|D1 8 Z9 Y<|Dd<|?_
   obtain rfl := rt h
   exact Zq (ZJ Y (.three (rb Y) (rb Y)<|rb Y))
theorem Q3 {data : List Int} {a : Int} {b : Int} {cmp : Int → Int → Option Int} {r : (List Int)} {cmp_f : FuncId} {cmp_c : List AV} (cmp_d : cmp_c.all datB = true) (cmp_h : ∀ (z0 : Int) (z1 : Int) z, cmp z0 z1 = some z → CSpec Tryd.prog gl0 cmp_f ([.int .i64 z0, .int .i64 z1] ++ cmp_c) (.int .i64 z)) (h : Zx data a b cmp = some r) :
 GSpec Tryd.prog gl0 96 [.own 0 data.length, .int .i64 a, .int .i64 b, .fn cmp_f cmp_c] [some ⟨3, List.map R3 data⟩] (.tuple []) [some ⟨3, List.map R3 r⟩] := by
 unfold Zx at h
 replace h := Z4 h
 refine Qy (by kernel_rfl) Tryd.func96 Y Y<|?_
 intro w0 A W φ0
 refine Tr<|Rm Y<|R2 ZO Y<|Ra Y<|Za<|Zh<|?_
 obtain ⟨r1, hl1, ho1⟩ := QV h
 refine L2 (fun o i=>⟨[(0, .own 0 o.length), (1, .int .i64 a), (2, .int .i64 b), (3, .fn cmp_f cmp_c), (8, .int .i64 i)], [some ⟨3, List.map R3 o⟩]⟩) hl1 (ES [some 0]<|sr 0 Y (.own _ Y)<|sd 1 Y Y<|sd 2 Y Y<|sr 3 Y (rFn<|rld cmp_d)<|sd 8 Y Y sn) fun n1 o i h=>?_
 unfold Zz at h
 refine Zi<|Tr<|Rm Y<|Rm Y<|R2 ZV Y<|Za<|K6 0 1 2 3 8 14 Y<|If h Y (fun h=>?_) fun h=>?_
 ·
  refine Zl<|I1 (fun o2=>⟨[(0, .own 0 o2.length), (1, .int .i64 a), (2, .int .i64 b), (3, .fn cmp_f cmp_c), (8, .int .i64 i)], [some ⟨3, List.map R3 o2⟩]⟩) h (fun h=>?_) fun o2 h=>?_
  ·
   refine Zh<|K5 0 1 2 3 8 Y<|Tr<|Rm Y<|Ra Y<|Za<|Zh<|?_
   obtain ⟨r2, hl2, ho2⟩ := QV h
   refine L2 (fun o3 j=>⟨[(0, .own 0 o3.length), (1, .int .i64 a), (2, .int .i64 b), (3, .fn cmp_f cmp_c), (8, .int .i64 i), (9, .int .i64 j)], [some ⟨3, List.map R3 o3⟩]⟩) hl2 (ES [some 0]<|sr 0 Y (.own _ Y)<|sd 1 Y Y<|sd 2 Y Y<|sr 3 Y (rFn<|rld cmp_d)<|sd 8 Y Y<|sd 9 Y Y sn) fun n2 o3 j h=>?_
   unfold Zy at h
   refine Zi<|Zi<|Ql (cw := md0) (by kernel_rfl)<|D1 0 Zc Y<|D1 1 Zc Y<|D2 2 Zb8 Y<|D1 3 Zc Y<|Dq 4 Y (.guarded ((decide (a < j)) == true) Y Y Y Y fun h => Zc<|ov Y)<|Dq 5 Y (.guarded ((decide (a < j)) == true) Y Y Y Y fun h => Zc<|ov Y)<|Dq 6 Y (.guarded ((decide (a < j)) == true) Y Y Y Y fun h => Zc<|ov Y)<|bE h fun x h_x h=>Dq 7 Y (.guarded ((decide (a < j)) == true) Y Y Y Y fun h => XE (ow Y h) (ow Y h) QS Y Y<|gdT h_x h)<|Dq 8 Y (.guarded ((decide (a < j)) == true) Y Y Y Y fun h => XD (ow Y h) Y Y (gdT h_x h) tS3 Y)<|Dq 9 Y (.guarded ((decide (a < j)) == true) Y Y Y Y fun h => Zc<|ov Y)<|Dq 10 Y (.guarded ((decide (a < j)) == true) Y Y Y Y fun h => Zc<|ov Y)<|Dq 11 Y (.guarded ((decide (a < j)) == true) Y Y Y Y fun h => ZjA (ow Y h) (ov Y) Y)<|bE h fun x2 h_x2 h=>Dq 12 Y (.guarded ((decide (a < j)) == true) Y Y Y Y fun h => XE (ow Y h) (ow Y h) QS Y Y<|gdT h_x2 h)<|Dq 13 Y (.guarded ((decide (a < j)) == true) Y Y Y Y fun h => XD (ow Y h) Y Y (gdT h_x2 h) tS3 Y)<|bE h fun y h_y h=>Dq 14 Y (.guarded ((decide (a < j)) == true) Y Y Y Y fun h => Zgl (ow Y h) cmp_d (cmp_h _ _ _<|gdT h_y h)<|.cons (ow Y h) (.b Y)<|.cons (ow Y h) (.b Y) .nil)<|Dq 15 Y (.guarded ((decide (a < j)) == true) Y Y Y Y fun h => ZV (ow Y h)<|ov Y)<|Dq 16 Y (Zch (ov Y) fun hp=>ow Y<|gT hp)<|Dd<|K7 0 1 2 3 8 9 34 Y<|If h Y (fun h=>?_) fun h=>?_
   ·
    exact Zl<|Zi<|Zh<|K6 0 1 2 3 8 9 Y<|Ql (cw := md0) (by kernel_rfl)<|D1 0 Zc Y<|D1 1 Zc Y<|D1 5 Zc Y<|D1 6 Zc Y<|D2 7 ZgB Y<|bE h fun x3 h_x3 h=>Dq 8 Y (XE (ov Y) (ov Y) QS Y Y h_x3)<|Dq 9 Y (XD (ov Y) Y Y h_x3 tS3 Y)<|D1 10 Zc Y<|D1 11 Zc Y<|bE h fun x4 h_x4 h=>Dq 12 Y (XE (ov Y) (ov Y) QS Y Y h_x4)<|Dq 13 Y (XD (ov Y) Y Y h_x4 tS3 Y)<|bE h fun x5 h_x5 h=>Dq 14 Y (XE (ov Y) (ov Y) QS Y Y h_x5)<|ZY 2 _ Y (by kernel_rfl) Y Y (fun hp'=>Zc<|ov Y)<|ZY 3 _ Y (by kernel_rfl) Y Y (fun hp'=>Zc<|ov Y)<|ZY 4 _ Y (by kernel_rfl) Y Y (fun hp'=>ZjA (ov Y) (ov Y) Y)<|Do 15 Y (Zay (u' := x3) (ov Y) (ov Y) (Ze tS3) Y Y h_x5 Y (Zb Y) Y)<|bE h fun x6 h_x6 h=>Dq 16 Y (XE (ov Y) (ov Y) QS Y ((List.length_set ..).trans Y) h_x6)<|Do 17 Y (Zay (u' := x4) (ov Y) (ov Y) (Ze tS3) Y ((List.length_set ..).trans Y) h_x6 Y (Zb Y) Y)<|Dd<|K6 0 1 2 3 8 9 Y<|Zu<|Rm Y<|R2 ZgB Y<|Ra Y<|Za<|⟨_, h, ES [some 0]<|sr 0 Y (Ze5 (Eq.symm<|(List.length_set ..).trans<|(List.length_set ..).trans Y) Y)<|sd 1 Y Y<|sd 2 Y Y<|sr 3 Y (rFn<|rld cmp_d)<|sd 8 Y Y<|sd 9 Y Y sn⟩
   ·
    refine ZG<|?_
    replace h := lx h ▸ ho2
    exact ⟨_, h, ES [some 0]<|sr 0 Y (.own _ Y)<|sd 1 Y Y<|sd 2 Y Y<|sr 3 Y (rFn<|rld cmp_d)<|sd 8 Y Y sn⟩
  ·
   exact Zu<|Rm Y<|R2 ZO Y<|Ra Y<|Za<|⟨_, h, ES [some 0]<|sr 0 Y (.own _ Y)<|sd 1 Y Y<|sd 2 Y Y<|sr 3 Y (rFn<|rld cmp_d)<|sd 8 Y Y sn⟩
 ·
  refine ZG<|?_
  replace h := lx h ▸ ho1
  obtain rfl := rt h
  exact Zhg [some 0] Y .nil (.cons Y (roM D3) .nil) Y Y<|XG rln
theorem ZbZ {data : List Int} {n : Int} {cmp : Int → Int → Option Int} {r : (List Int)} {cmp_f : FuncId} {cmp_c : List AV} (cmp_d : cmp_c.all datB = true) (cmp_h : ∀ (z0 : Int) (z1 : Int) z, cmp z0 z1 = some z → CSpec Tryd.prog gl0 cmp_f ([.int .i64 z0, .int .i64 z1] ++ cmp_c) (.int .i64 z)) (h : Z0 data n cmp = some r) :
 GSpec Tryd.prog gl0 73 [.own 0 data.length, .int .i64 n, .fn cmp_f cmp_c] [some ⟨3, List.map R3 data⟩] (.tuple []) [some ⟨3, List.map R3 r⟩] := by
 unfold Z0 at h
 replace h := Z4 h
 refine Qy (by kernel_rfl) Tryd.func73 Y Y<|?_
 intro w0 A W φ0
 refine Tr<|Ra Y<|Za<|Tr<|Rm Y<|Ra Y<|Ra Y<|Za<|I2 (fun o a=>⟨[(0, .own 0 o.length), (1, .int .i64 n), (2, .fn cmp_f cmp_c), (6, .int .i64 20), (7, .int .i64 a)], [some ⟨3, List.map R3 o⟩]⟩) h (fun h=>?_) fun o a h=>?_
 ·
  refine Zh<|?_
  obtain ⟨r1, hl1, ho1⟩ := QV h
  refine L3 (fun o2 a2 b=>⟨[(0, .own 0 o2.length), (1, .int .i64 n), (2, .fn cmp_f cmp_c), (6, .int .i64 20), (7, .int .i64 a2), (8, .int .i64 b)], [some ⟨3, List.map R3 o2⟩]⟩) hl1 (ES [some 0]<|sr 0 Y (.own _ Y)<|sd 1 Y Y<|sr 2 Y (rFn<|rld cmp_d)<|sd 6 Y Y<|sd 7 Y Y<|sd 8 Y Y sn) fun n1 o2 a2 b h=>?_
  unfold ZI at h
  refine Zi<|Tr<|Rm Y<|Rm Y<|R2 Zhb Y<|Za<|K7 0 1 2 6 7 8 13 Y<|If h Y (fun h=>?_) fun h=>?_
  ·
   exact Zl<|Zh<|K6 0 1 2 6 7 8 Y<|Tr<|Rm Y<|Rm Y<|Rm Y<|Rm Y<|bE h fun y h_y h=>Rx Y (ZD [0] (Q3 cmp_d cmp_h h_y) (.cons (ov Y) (.own _ Y)<|.cons (ov Y) (.dat Y)<|.cons (ov Y) (.dat Y)<|.cons (ov Y) (rFn<|rld cmp_d) .nil) (.cons Y (roM D3) .nil) Y (.lent 0 (.inl Y) Y (roM D3) .nil) Y Y<|XG<|rld Y)<|Za<|K6 0 1 2 6 7 8 Y<|Tr<|Rm Y<|Ra Y<|Za<|K6 0 1 2 6 7 8 Y<|Zu<|Rm Y<|Rm Y<|R2 ZO Y<|Ra Y<|Za<|⟨_, h, ES [some 0]<|sr 0 Y (Ze5 (Eq.symm<|ZX h_y) Y)<|sd 1 Y Y<|sr 2 Y (rFn<|rld cmp_d)<|sd 6 Y Y<|sd 7 Y Y<|sd 8 Y Y sn⟩
  ·
   refine ZG<|?_
   replace h := lx h ▸ ho1
   exact ⟨_, h, ES [some 0]<|sr 0 Y (.own _ Y)<|sd 1 Y Y<|sr 2 Y (rFn<|rld cmp_d)<|sd 6 Y Y<|sd 7 Y Y sn⟩
 ·
  refine Tr<|Rm Y<|Rm Y<|Rm Y<|Rm Y<|bE h fun y2 h_y2 h=>Rx Y (ZD [0] (Q3 cmp_d cmp_h h_y2) (.cons (ov Y) (.own _ Y)<|.cons (ov Y) (.dat Y)<|.cons (ov Y) (.dat Y)<|.cons (ov Y) (rFn<|rld cmp_d) .nil) (.cons Y (roM D3) .nil) Y (.lent 0 (.inl Y) Y (roM D3) .nil) Y Y<|XG<|rld Y)<|Za<|Zh<|?_
  obtain ⟨r2, hl2, ho2⟩ := QV h
  refine L1 (fun blockSize=>⟨[(0, .own 0 y2.length), (1, .int .i64 n), (2, .fn cmp_f cmp_c), (6, .int .i64 blockSize)], [some ⟨3, List.map R3 y2⟩]⟩) hl2 (ES [some 0]<|sr 0 Y (Ze5 (Eq.symm<|ZX h_y2) Y)<|sd 1 Y Y<|sr 2 Y (rFn<|rld cmp_d)<|sd 6 Y Y sn) fun n2 blockSize h=>?_
  unfold ZN at h
  refine Zi<|Tr<|Rm Y<|Rm Y<|R2 ZV Y<|Za<|K5 0 1 2 6 30 Y<|If h Y (fun h=>?_) fun h=>?_
  ·
   refine Zl<|Zh<|K4 0 1 2 6 Y<|Tr<|Rm Y<|R2 Zfq Y<|Ra Y<|Ra Y<|Za<|I0 ⟨[(0, .own 0 y2.length), (1, .int .i64 n), (2, .fn cmp_f cmp_c), (6, .int .i64 blockSize), (7, .int .i64 0)], [some ⟨3, List.map R3 y2⟩]⟩ h (fun h=>?_) fun h=>?_
   ·
    refine Zh<|?_
    obtain ⟨r3, hl3, ho3⟩ := QV h
    refine L0 ⟨[(0, .own 0 y2.length), (1, .int .i64 n), (2, .fn cmp_f cmp_c), (6, .int .i64 blockSize), (7, .int .i64 0), (8, .int .i64 (i64 (2 * blockSize)))], [some ⟨3, List.map R3 y2⟩]⟩ hl3 (ES [some 0]<|sr 0 Y (.own _ Y)<|sd 1 Y Y<|sr 2 Y (rFn<|rld cmp_d)<|sd 6 Y Y<|sd 7 Y Y<|sd 8 Y Y sn) fun n3 h=>?_
    unfold Qk at h
    refine Zi<|Tr<|Rm Y<|Rm Y<|R2 Zhb Y<|Za<|K7 0 1 2 6 7 8 35 Y<|If h Y (fun h=>?_) fun h=>?_
    ·
     exact Zl<|Zh<|(Zh2 h).elim
    ·
     refine ZG<|?_
     replace h := lx h ▸ ho3
     exact ⟨(), h, ES [some 0]<|sr 0 Y (.own _ Y)<|sd 1 Y Y<|sr 2 Y (rFn<|rld cmp_d)<|sd 6 Y Y<|sd 7 Y Y sn⟩
   ·
    refine Zi<|Tr<|Rm Y<|Rm Y<|R2 ZO Y<|Ra Y<|Za<|K6 0 1 2 6 7 9 Y<|Tr<|Rm Y<|Rm Y<|R2 ZV Y<|Za<|K7 0 1 2 6 7 9 54 Y<|If h Y (fun h=>?_) fun h=>?_
    ·
     exact (Zh2 h).elim
    ·
     exact Zl<|K4 0 1 2 6 Y<|Zu<|Rm Y<|R2 Zfq Y<|Ra Y<|Za<|⟨_, h, ES [some 0]<|sr 0 Y (.own _ Y)<|sd 1 Y Y<|sr 2 Y (rFn<|rld cmp_d)<|sd 6 Y Y sn⟩
  ·
   refine ZG<|?_
   replace h := lx h ▸ ho2
   obtain rfl := rt h
   exact Zhg [some 0] Y .nil (.cons Y (roM D3) .nil) Y Y<|XG rln
theorem ZaM {x : List Int} {cmp : Int → Int → Option Int} {r : (List Int)} {cmp_f : FuncId} {cmp_c : List AV} (cmp_d : cmp_c.all datB = true) (cmp_h : ∀ (z0 : Int) (z1 : Int) z, cmp z0 z1 = some z → CSpec Tryd.prog gl0 cmp_f ([.int .i64 z0, .int .i64 z1] ++ cmp_c) (.int .i64 z)) (h : ZF x cmp = some r) :
 GSpec Tryd.prog gl0 46 [.own 0 x.length, .fn cmp_f cmp_c] [some ⟨3, List.map R3 x⟩] (.tuple []) [some ⟨3, List.map R3 r⟩] := by
 unfold ZF at h
 replace h := Z4 h
 refine Qy (by kernel_rfl) Tryd.func46 Y Y<|?_
 intro w0 A W φ0
 refine Zu<|Rm Y<|Rm Y<|Rq Y (ZdU (ov Y) Y Y QS)<|Rm Y<|bE h fun y h_y h=>Rx Y (ZD [0] (ZbZ cmp_d cmp_h h_y) (.cons (ov Y) (.own _ Y)<|.cons (ov Y) (.dat Y)<|.cons (ov Y) (rFn<|rld cmp_d) .nil) (.cons Y (roM D3) .nil) Y (.lent 0 (.inl Y) Y (roM D3) .nil) Y Y<|XG<|rld Y)<|Za<|?_
 obtain rfl := rt h
 exact Zhg [some 0] Y .nil (.cons Y (roM D3) .nil) Y Y<|XG rln
theorem ZcD {i : Int} {c0 : api_Memory} {r : Int} (h : XC i c0 = some r) :
 CSpec Tryd.prog gl0 45 [.int .i64 i, .rp [.int .i64 c0.Slots, .int .i64 c0.Limit, .sl 29 (List.map R29 c0.Sectors), .sl 3 (List.map R3 c0.Wear), .sl 4 (List.map R4 c0.Bad)] 0] (.int .i64 r) := by
 unfold XC at h
 replace h := Z4 h
 refine So Tryd.func45 Y fun w0 A=>Tr<|Ra Y<|Za<|K2 0 1 Y<|Tr<|Rq Y (ZQ (ov Y) ZE)<|Rq Y (Zd (ov Y) Z2 Y)<|Rm Y<|bE h fun x h_x h=>Rq Y (Z3 (ov Y) (ov Y) ZU h_x)<|Rq Y (Zd (ov Y) Zgd Y)<|bE h fun y h_y h=>Rq Y (Zp (Zaw h_y)<|.cons (ov Y) (.b Y) .nil)<|Rm Y<|Rq Y (Zn (ov Y) Y)<|Rq Y (Zn (ov Y) Y)<|Rq Y (Zn (ov Y) Y)<|Ra Y<|Ra Y<|Ra Y<|Za<|K1 4 Y<|Tr<|Rm Y<|Ra Y<|Za<|?_
 obtain rfl := rt h
 exact Zq (ZJ Y (.one<|rb Y))
theorem Ze2 {a : Int} {b : Int} {k : api_Memory} {r : Int} (h : Jd a b k = some r) :
 CSpec Tryd.prog gl0 47 [.int .i64 a, .int .i64 b, .rp [.fn 45 [.rp [.int .i64 k.Slots, .int .i64 k.Limit, .sl 29 (List.map R29 k.Sectors), .sl 3 (List.map R3 k.Wear), .sl 4 (List.map R4 k.Bad)] 0]] 0] (.int .i64 r) := by
 unfold Jd at h
 replace h := Z4 h
 refine So Tryd.func47 Y fun w0 A=>Tr<|Ra Y<|Za<|Zi<|Ql (cw := md0) (by kernel_rfl)<|Dq 0 Y (Zd (ov Y) ZkR Y)<|D1 1 Zc Y<|bE h fun y h_y h=>Dq 2 Y (Zgl (ov Y) Y (ZcD h_y)<|.cons (ov Y) (.b Y) .nil)<|Dq 3 Y (Zd (ov Y) ZkR Y)<|D1 4 Zc Y<|bE h fun y2 h_y2 h=>Dq 5 Y (Zgl (ov Y) Y (ZcD h_y2)<|.cons (ov Y) (.b Y) .nil)<|D2 6 ZgB Y<|D1 7 Z9 Y<|Dd<|?_
 obtain rfl := rt h
 exact Zq (ZJ Y (.one<|rb Y))
theorem Zdm {m : api_Memory} {r : (List Int)} (h : Jp m = some r) :
 CSpec Tryd.prog gl0 26 [.agg [.int .i64 m.Slots, .int .i64 m.Limit, .sl 29 (List.map R29 m.Sectors), .sl 3 (List.map R3 m.Wear), .sl 4 (List.map R4 m.Bad)]] (.sl 3 (List.map R3 r)) := by
 unfold Jp at h
 replace h := Z4 h
 refine So Tryd.func26 Y fun w0 A=>Tr<|Rq Y (ZcJ (cva<|ov Y) Y tZ_60 Y)<|Ra Y<|Za<|K1 1 Y<|Tr<|Ra Y<|Za<|Tr<|Rq Y (ZgO<|.cons (ov Y) .nil)<|Rx Y (ZW (row := [_]) 0 Y Zlg Y tZ_96)<|Rx Y (Zj (ov Y) (ov Y) (Ze ZkR) Y Y Y (Nat.le_of_ble_eq_true Y) (Zb Y) Y)<|Za<|I1 (fun out=>⟨[(3, .own 0 out.length), (4, .ptr 1 1 0 0)], [some ⟨3, List.map R3 out⟩, some ⟨96, [[.fn 45 [.rp [.int .i64 m.Slots, .int .i64 m.Limit, .sl 29 (List.map R29 m.Sectors), .sl 3 (List.map R3 m.Wear), .sl 4 (List.map R4 m.Bad)] 0]]]⟩]⟩) h (fun h=>?_) fun out h=>?_
 ·
  refine K3 1 3 4 Y<|Tr<|Rq Y (ZQ (ov Y) ZE)<|Rq Y (Zd (ov Y) Z2 Y)<|Rl tZ_29 ZU Y<|Rm Y<|Za<|Zh<|?_
  obtain ⟨r1, hl1, ho1⟩ := QV h
  refine L2 (fun out2 i=>⟨[(1, .rp [.int .i64 m.Slots, .int .i64 m.Limit, .sl 29 (List.map R29 m.Sectors), .sl 3 (List.map R3 m.Wear), .sl 4 (List.map R4 m.Bad)] 0), (3, .own 0 out2.length), (4, .ptr 1 1 0 0), (12, .sl 29 (List.map R29 m.Sectors)), (13, .int .i64 (m.Sectors.length : Int)), (14, .int .i64 i)], [some ⟨3, List.map R3 out2⟩, some ⟨96, [[.fn 45 [.rp [.int .i64 m.Slots, .int .i64 m.Limit, .sl 29 (List.map R29 m.Sectors), .sl 3 (List.map R3 m.Wear), .sl 4 (List.map R4 m.Bad)] 0]]]⟩]⟩) hl1 (ES [none, some 0] (hhp := .row 3<|.cons Y (ro1 (by exact tZ_96.symm)<|rlc (rFn<|rlc (.dat Y) rln) rln) .nil)) fun n1 out2 i h=>?_
  unfold JT at h
  refine Tr<|R2 ZV Y<|Za<|Zi<|If h Y (fun h=>?_) fun h=>?_
  ·
   refine Zl<|Zi<|Zh<|K6 1 3 4 12 13 14 Y<|Tr<|Rm Y<|bE h fun x h_x h=>Rq Y (Z3 (ov Y) (ov Y) ZU h_x)<|Rq Y (Zd (ov Y) Zgd Y)<|Ra Y<|Ra Y<|Za<|K8 1 3 4 5 6 12 13 14 Y<|Tr<|Rm Y<|bE h fun y h_y h=>Rq Y (Zp (Zaw h_y)<|.cons (ov Y) (.b Y) .nil)<|Rm Y<|Rq Y (Zn (ov Y) Y)<|Rq Y (Zn (ov Y) Y)<|Rq Y (Zn (ov Y) Y)<|Ra Y<|Ra Y<|Ra Y<|Za<|K8 1 3 4 5 9 12 13 14 Y<|Tr<|Rm Y<|Rm Y<|Rq Y (.guarded (y.2.2 == true) Y Y Y Y fun h => ZQ (ov Y) ZfA)<|Rq Y (.guarded (y.2.2 == true) Y Y Y Y fun h => Zd (ow Y h) Zij Y)<|Rq Y (.guarded (y.2.2 == true) Y Y Y Y fun h => Zc<|ov Y)<|bE h fun x2 h_x2 h=>Rq Y (.guarded (y.2.2 == true) Y Y Y Y fun h => Z3 (ow Y h) (ow Y h) ZgZ<|gdT h_x2 h)<|Rq Y (.guarded (y.2.2 == true) Y Y Y Y fun h => Zd (ow Y h) tS4 Y)<|Rq Y (.guarded (y.2.2 == true) Y Y Y Y fun h => XU<|ow Y h)<|Rq Y (Zch (ov Y) fun hp=>ow Y<|gT hp)<|Za<|K8 1 3 4 5 12 13 14 33 Y<|If h Y (fun h=>?_) fun h=>?_
   ·
    exact K7 1 3 4 5 12 13 14 Y<|Zu<|Rm Y<|Rm Y<|R_q (.sl 3<|List.map R3 ([i] : List Int)) Y (XH QS (.cons (cvs (ov Y)<|Zk Y) Y (.cons (.b Y) .nil) .nil) Y Y)<|bE h fun l h_l h=>Rx Y (QA (ov Y) (QR (ov Y) tZ_3) QS Y Y Y (fun _=>Zb Y) Y h_l)<|Ra Y<|Za<|K6 1 3 4 12 13 14 Y<|Zu<|R2 ZO Y<|Rm Y<|Za<|⟨_, h, ES [some 0, some 1] (hhp := .cons Y (roM D3)<|.cons Y (ro1 (by exact tZ_96.symm)<|rlc (rFn<|rlc (.dat Y) rln) rln) .nil)⟩
   ·
    exact Zl<|K6 1 3 4 12 13 14 Y<|Zu<|R2 ZO Y<|Rm Y<|Za<|⟨_, h, ES [some 0, some 1] (hhp := .cons Y (roM D3)<|.cons Y (ro1 (by exact tZ_96.symm)<|rlc (rFn<|rlc (.dat Y) rln) rln) .nil)⟩
  ·
   refine ZG<|?_
   replace h := lx h ▸ ho1
   exact ⟨_, h, ES [some 0, some 1] (hhp := .cons Y (roM D3)<|.cons Y (ro1 (by exact tZ_96.symm)<|rlc (rFn<|rlc (.dat Y) rln) rln) .nil)⟩
 ·
  refine Tr<|Rm Y<|Qx (Ent.sel [some 0, none] (sr 3 Y (.own (r' := 0) _ Y)<|sr 4 Y (.frp ⟨Y, ⟨_, Y⟩, Y, Y⟩)<|sr 39 Y (.own (r' := 0) _ Y) sn) (.cons Y (roM D3)<|.row 96 .nil) Y Y)<|Rq Y (ZgO<|.cons (ov Y) .nil)<|bE h fun y2 h_y2 h=>Rx Y (ZD [0] (ZaM Y (fun z0 z1 _ hz=>Ze2 hz) h_y2) (.cons (ov Y) (.own _ Y)<|.cons (ov Y) (.dat Y) .nil) (.cons Y (roM D3) .nil) Y (.lent 0 (.inl Y) Y (roM D3)<|.keep Y Y .nil) Y Y<|XG<|rld Y)<|Za<|K1 3 Y<|Tr<|Rm Y<|Ra Y<|Za<|?_
  obtain rfl := rt h
  exact Zq (ZJ Y (.one<|.tmp Y<|View.ownM Y (ZaD h_y2) D3))
theorem ZdC {s : List Int} {i : Int} {r : (Vector Int 97)} (h : Zag s i = some r) :
 CSpec Tryd.prog gl0 28 [.sl 5 (List.map R5 s), .int .i64 i] (.rp (List.map C5 r.toList) 0) := by
 unfold Zag at h
 replace h := Z4 h
 refine So Tryd.func28 Y fun w0 A=>Tr<|Ra Y<|Za<|K2 0 1 Y<|Tr<|Rm Y<|R2 Zfq Y<|R2 ZO Y<|Ra Y<|Za<|K2 0 5 Y<|Tr<|Rm Y<|Rm Y<|Rm Y<|R2 ZO Y<|bE h fun l h_l h=>Rq Y (Zgp (ov Y) Qm (oi<|ov Y) (oi<|ov Y) h_l)<|bE h fun v h_v h=>Rq Y (Zis (f := C5) (ov Y) ZiJ tZ_5 Y h_v)<|Ra Y<|Za<|?_
 obtain rfl := rt h
 exact Zq (ZJ Y (.one<|rb Y))
theorem Zby {s : List Int} {f : Int → Option Bool} {r : Int} {f_f : FuncId} {f_c : List AV} (f_d : f_c.all datB = true) (f_h : ∀ (z0 : Int) z, f z0 = some z → CSpec Tryd.prog gl0 f_f ([.int .u8 z0] ++ f_c) (.bool z)) (h : Z5 s f = some r) :
 CSpec Tryd.prog gl0 74 [.sl 5 (List.map R5 s), .fn f_f f_c] (.int .i64 r) := by
 unfold Z5 at h
 replace h := Z4 h
 refine So Tryd.func74 Y fun w0 A=>Tr<|Ra Y<|Za<|J0 (fun j => (.inr j)) ⟨[], []⟩ h (fun h=>?_) fun h=>?_
 ·
  refine K2 0 1 Y<|Tr<|Rm Y<|Rl tZ_5 Qm Y<|Rm Y<|Za<|Zh<|?_
  obtain ⟨r1, hl1, ho1⟩ := QV h
  refine L1 (fun i=>⟨[(0, .sl 5 (List.map R5 s)), (1, .fn f_f f_c), (7, .int .i64 (s.length : Int)), (8, .int .i64 i)], []⟩) hl1 (ES []<|sd 0 Y Y<|sr 1 Y (rFn<|rld f_d)<|sd 7 Y Y<|sd 8 Y Y sn) fun n1 i h=>?_
  unfold Qh at h
  refine Tr<|R2 ZV Y<|Za<|Zi<|If h Y (fun h=>?_) fun h=>?_
  ·
   refine Zl<|Zi<|Zh<|K4 0 1 7 8 Y<|Tr<|Rm Y<|Ra Y<|Za<|K5 0 1 5 7 8 Y<|Tr<|Rm Y<|Rm Y<|Rm Y<|bE h fun x h_x h=>Rq Y (Z3 (ov Y) (ov Y) Qm h_x)<|Rq Y (Zd (ov Y) tS5 Y)<|bE h fun y h_y h=>Rq Y (Zgl (ov Y) f_d (f_h _ _ h_y)<|.cons (ov Y) (.b Y) .nil)<|Za<|K6 0 1 5 7 8 16 Y<|If h Y (fun h=>?_) fun h=>?_
   ·
    refine K1 5 Y<|Tr<|Rm Y<|Ra Y<|Za<|?_
    replace h := lx h ▸ ho1
    obtain rfl := rt h
    exact Zq (ZJ Y (.one<|rb Y))
   ·
    exact Zl<|K4 0 1 7 8 Y<|Zu<|R2 ZO Y<|Rm Y<|Za<|⟨_, h, ES []<|sd 0 Y Y<|sr 1 Y (rFn<|rld f_d)<|sd 7 Y Y<|sd 8 Y Y sn⟩
  ·
   refine ZG<|?_
   replace h := lx h ▸ ho1
   exact ⟨(), h, ES []⟩
 ·
  replace h := elr h
  replace h := t0i h
  refine Tr<|Ra Y<|Za<|?_
  obtain rfl := rt h
  exact Zq (ZJ Y (.one<|rb Y))
theorem ZaP {s : List Int} {f : Int → Option Bool} {r : Bool} {f_f : FuncId} {f_c : List AV} (f_d : f_c.all datB = true) (f_h : ∀ (z0 : Int) z, f z0 = some z → CSpec Tryd.prog gl0 f_f ([.int .u8 z0] ++ f_c) (.bool z)) (h : ZT s f = some r) :
 CSpec Tryd.prog gl0 50 [.sl 5 (List.map R5 s), .fn f_f f_c] (.bool r) := by
 unfold ZT at h
 replace h := Z4 h
 refine So Tryd.func50 Y fun w0 A=>Tr<|Ra Y<|Za<|Tr<|Rm Y<|Rm Y<|bE h fun y h_y h=>Rq Y (Zp (Zby f_d f_h h_y)<|.cons (ov Y) (.b Y)<|.cons (ov Y) (Dat.fnC<|.refl fun x hx => .b<|List.all_eq_true.1 f_d x hx) .nil)<|R2 ZgG Y<|Ra Y<|Za<|?_
 obtain rfl := rt h
 exact Zq (ZJ Y (.one<|rb Y))
theorem ZeQ {b : Int} {r : Bool} (h : Jg b = some r) :
 CSpec Tryd.prog gl0 51 [.int .u8 b] (.bool r) := by
 unfold Jg at h
 replace h := Z4 h
 refine So Tryd.func51 Y fun w0 A=>Tr<|Ra Y<|Za<|Tr<|Rm Y<|R2 XZ Y<|Ra Y<|Za<|?_
 obtain rfl := rt h
 exact Zq (ZJ Y (.one<|rb Y))
theorem Zdh {p : Vector Int 97} {r : Int} (h : Jt p = some r) :
 CSpec Tryd.prog gl0 29 [.rp (List.map C5 p.toList) 0] (.int .i64 r) := by
 unfold Jt at h
 replace h := Z4 h
 refine So Tryd.func29 Y fun w0 A=>Tr<|Ra Y<|Za<|Zi<|Zh<|K1 0 Y<|Tr<|Rm Y<|R1 ZA Y<|bE h fun x h_x h=>Rq Y (Qr (ov Y) (ov Y) ZiJ h_x)<|Rq Y (Zd (ov Y) tS5<|Qd<|Q1 (o := 0) (o' := ((Int.toNat 96) * 1)) (Zr arL)<|Q4 h_x)<|R2 ZbQ Y<|Ra Y<|Za<|K2 0 3 Y<|If h Y (fun h=>?_) fun h=>?_
 ·
  refine K0<|Tr<|Ra Y<|Za<|?_
  obtain rfl := rt h
  exact Zq (ZJ Y (.one<|rb Y))
 ·
  refine K1 0 Y<|Tr<|Rm Y<|R1 ZA Y<|bE h fun l h_l h=>Rq Y (ZiD (f := C5) (ov Y) ZiJ tZ_5 (Zr arL) Y on on h_l)<|bE h fun y h_y h=>Rq Y (Zp (ZaP Y (fun z0 _ hz=>ZeQ hz) h_y)<|.cons (ov Y) (.b Y)<|.cons (ov Y) .fn .nil)<|Ra Y<|Za<|K1 9 Y<|If h Y (fun h=>?_) fun h=>?_
  ·
   refine K0<|Tr<|Ra Y<|Za<|?_
   obtain rfl := rt h
   exact Zq (ZJ Y (.one<|rb Y))
  ·
   refine Zl<|K0<|Tr<|Ra Y<|Za<|?_
   obtain rfl := rt h
   exact Zq (ZJ Y (.one<|rb Y))
theorem ZfL {m : api_Memory} {r : ring_spot} (h : JK m = some r) :
 CSpec Tryd.prog gl0 32 [.agg [.int .i64 m.Slots, .int .i64 m.Limit, .sl 29 (List.map R29 m.Sectors), .sl 3 (List.map R3 m.Wear), .sl 4 (List.map R4 m.Bad)]] (.agg [.int .i64 r.sector, .int .i64 r.slot]) := by
 unfold JK at h
 replace h := Z4 h
 refine So Tryd.func32 Y fun w0 A=>Tr<|Rq Y (ZcJ (cva<|ov Y) Y tZ_60 Y)<|Rx Y (ZW (row := [_, _]) 0 Y ZiU Y tZ_83)<|Za<|K2 1 2 Y<|Tr<|Rq Y (QW (ov Y) XT Y Y)<|bE h fun y h_y h=>Rq Y (Zp (Zdm h_y)<|.cons (ov Y) (.aggB Y) .nil)<|Ra Y<|Za<|Zi<|K3 1 2 3 Y<|Tr<|Rm Y<|Rl tZ_3 QS Y<|R2 ZbQ Y<|Za<|K4 1 2 3 10 Y<|If h Y (fun h=>?_) fun h=>?_
 ·
  refine K1 2 Y<|Tr<|Rq Y (Xl (ys := [_, _]) Zjg ZjR ZiU (.cons (cvs (ov Y)<|Zk Y) .nil) Y)<|Rx Y (Zj (ov Y) (ov Y) (Zw Zhv Y) Y Y Y (Nat.le_of_ble_eq_true Y) (Zb Y) Y)<|Za<|?_
  obtain rfl := rt h
  exact Zq (ZJ Y (.one<|.agg Y Y Y Y Zhv Y Y<|pwB Y))
 ·
  refine Zl<|K3 1 2 3 Y<|Tr<|Rm Y<|Rm Y<|Rl tZ_3 QS Y<|R2 ZgB Y<|bE h fun x h_x h=>Rq Y (Z3 (ov Y) (ov Y) QS h_x)<|Rq Y (Zd (ov Y) tS3 Y)<|Rq Y (Xl (ys := [_, _]) Zjg ZjR ZiU (.cons (cvs (ov Y)<|Zk Y) .nil) Y)<|Rx Y (ZW (row := [_, _]) 1 Y ZiU Y tZ_83)<|Rx Y (Zj (ov Y) (ov Y) (Zw Zhv Y) Y Y Y (Nat.le_of_ble_eq_true Y) (Zb Y) Y)<|Za<|I1 (fun slot=>⟨[(2, .ptr 0 1 0 0), (4, .ptr 1 1 0 0)], [some ⟨83, [[.int .i64 0, .int .i64 0]]⟩, some ⟨83, [[.int .i64 x, .int .i64 slot]]⟩]⟩) h (fun h=>?_) fun slot h=>?_
  ·
   refine K3 1 2 4 Y<|Tr<|Rq Y (ZQ (ov Y) Zgq)<|Rq Y (Zd (ov Y) tS3 Y)<|Rm Y<|Za<|Zh<|?_
   obtain ⟨r1, hl1, ho1⟩ := QV h
   refine L2 (fun slot2 i=>⟨[(1, .rp [.int .i64 m.Slots, .int .i64 m.Limit, .sl 29 (List.map R29 m.Sectors), .sl 3 (List.map R3 m.Wear), .sl 4 (List.map R4 m.Bad)] 0), (2, .ptr 0 1 0 0), (4, .ptr 1 1 0 0), (20, .int .i64 m.Slots), (21, .int .i64 i)], [some ⟨83, [[.int .i64 0, .int .i64 0]]⟩, some ⟨83, [[.int .i64 x, .int .i64 slot2]]⟩]⟩) hl1 (ES [some 0, some 1]) fun n1 slot2 i h=>?_
   unfold Js at h
   refine Tr<|R2 ZV Y<|Za<|Zi<|If h Y (fun h=>?_) fun h=>?_
   ·
    refine Zl<|Zi<|Zh<|K5 1 2 4 20 21 Y<|Tr<|Rm Y<|Ra Y<|Za<|K6 1 2 4 5 20 21 Y<|Tr<|Rq Y (ZQ (ov Y) ZE)<|Rq Y (Zd (ov Y) Z2 Y)<|Rq Y (Zg (ov Y) Y Y ZfP)<|Rq Y (Zs (ov Y) Y Y Y tS3 Y)<|bE h fun x2 h_x2 h=>Rq Y (Z3 (ov Y) (ov Y) ZU h_x2)<|Rq Y (Zd (ov Y) Zgd Y)<|Rm Y<|bE h fun y2 h_y2 h=>Rq Y (Zp (ZdC h_y2)<|.cons (ov Y) (.b Y)<|.cons (ov Y) (.b Y) .nil)<|bE h fun y3 h_y3 h=>Rq Y (Zp (Zdh h_y3)<|.cons (ov Y) (.b Y) .nil)<|R2 XZ Y<|Za<|K7 1 2 4 5 20 21 33 Y<|If h Y (fun h=>?_) fun h=>?_
    ·
     exact K6 1 2 4 5 20 21 Y<|Zu<|Rm Y<|R2 ZO Y<|Rq Y (Zg (ov Y) Y Y Zgz)<|Rx Y (Zj (ov Y) (ov Y) (Ze tS3) Y Y Y (Nat.le_of_ble_eq_true Y) (Zb Y) Y)<|Za<|K5 1 2 4 20 21 Y<|Zu<|R2 ZO Y<|Rm Y<|Za<|⟨_, h, ES [some 0, some 1]⟩
    ·
     exact Zl<|K5 1 2 4 20 21 Y<|Zu<|R2 ZO Y<|Rm Y<|Za<|⟨_, h, ES [some 0, some 1]⟩
   ·
    refine ZG<|?_
    replace h := lx h ▸ ho1
    exact ⟨_, h, ES [some 0, some 1]⟩
  ·
   refine Tr<|Rq Y (Qg (ov Y) Y Y Y Zhv Y Y)<|Rx Y (Zj (ov Y) (ov Y) (Zw Zhv Y) Y Y Y (Nat.le_of_ble_eq_true Y) (Zb Y) Y)<|Za<|?_
   obtain rfl := rt h
   exact Zq (ZJ Y (.one<|.agg Y Y Y Y Zhv Y Y<|pwB Y))
theorem Zdj {l : List api_Memory} {copies : Int} {r : (Int) ⊕ (ring_Recorder × Int)} (h : Zac l copies = some r) :
 GSpec Tryd.prog gl0 13 [.sl 60 (List.map R60 l), .int .i64 copies] [] (Sum.elim (fun r => .tuple [.lit (.pointer none), .int .i64 r]) (fun r => .tuple [.ptr 0 1 0 0, .int .i64 r.2]) r) (Sum.elim (fun r => []) (fun r => [some ⟨80, [[.own 1 r.1.bank.memories.length, .own 2 r.1.bank.spots.length, .int .i64 r.1.copies, .bool r.1.frozen, .bool r.1.stopped, .int .i64 r.1.last, .bool r.1.some_]]⟩, some ⟨60, List.map O60 r.1.bank.memories⟩, some ⟨83, List.map R83 r.1.bank.spots⟩]) r) := by
 unfold Zac at h
 replace h := Z4 h
 refine Qy (by kernel_rfl) Tryd.func13 Y Y<|?_
 intro w0 A W φ0
 refine Tr<|Ra Y<|Ra Y<|Za<|Zi<|K2 0 1 Y<|Tr<|Rm Y<|bE h fun y h_y h=>Rq Y (Zp (ZcV h_y)<|.cons (ov Y) (.b Y) .nil)<|Ra Y<|Za<|K3 0 1 6 Y<|Tr<|Rm Y<|R2 XZ Y<|Za<|K4 0 1 6 17 Y<|If h Y (fun h=>?_) fun h=>?_
 ·
  refine K1 6 Y<|Tr<|Rm Y<|Ra Y<|Ra Y<|Za<|?_
  obtain rfl := rt h
  exact Zq<|Zao [] Y (.cons (.tmp Y)<|.cons (.tmp Y) .nil) .nil Y Y<|XG<|rlc (.dat Y)<|rlc (.dat Y) rln
 ·
  refine Zl<|Zi<|K2 0 1 Y<|Tr<|Rm Y<|Rm Y<|Rl tZ_60 Zcm Y<|bE h fun y2 h_y2 h=>Rq Y (Zp (ZL h_y2)<|.cons (ov Y) (.b Y)<|.cons (ov Y) (.b Y)<|.cons (ov Y) (.b Y) .nil)<|R1 XU Y<|Za<|K3 0 1 23 Y<|If h Y (fun h=>?_) fun h=>?_
  ·
   refine K0<|Tr<|Ra Y<|Ra Y<|Za<|?_
   obtain rfl := rt h
   exact Zq<|Zao [] Y (.cons (.tmp Y)<|.cons (.tmp Y) .nil) .nil Y Y<|XG<|rlc (.dat Y)<|rlc (.dat Y) rln
  ·
   refine Zl<|K2 0 1 Y<|Tr<|Rm Y<|Rq Y (Xl (ys := [_, _, _, _, _, _, _]) Zk5 Zk2 Zlo (.cons (cvs (ov Y)<|Zk Y) .nil) Y)<|Rx Y (Ziy 0 Y (ov Y) Zlj Y)<|Ra Y<|Za<|K2 0 7 Y<|Tr<|Rm Y<|Rm Y<|bE h fun y3 h_y3 h=>Rx Y (ZD [] (Zfk h_y3) (.cons (ov Y) (.dat Y) .nil) .nil Y (.keep Y Y<|.lent 0 (.inr ⟨Nat.le_of_ble_eq_true Y, Y⟩) Y (roO Q9) .nil) Y Y<|.own _<|.inr ⟨Nat.le_of_ble_eq_true Y, Y⟩)<|Rq Y (Zt (ov Y) Y Y)<|Rq Y (Zg (ov Y) Y Y ZdL)<|Rq Y (Zg (ov Y) Y Y Zda)<|Rx Y (Zj (ov Y) (ov Y) (Ze Zhq) Y Y Y (Nat.le_of_ble_eq_true Y) (Zb Y) Y)<|Za<|I2 (fun spots frozen=>⟨[(7, .ptr 0 1 0 0)], [some ⟨80, [[.own 1 y3.length, .own 2 spots.length, .int .i64 copies, .bool frozen, .bool false, .int .i64 0, .bool false]]⟩, some ⟨60, List.map O60 y3⟩, some ⟨83, List.map R83 spots⟩]⟩) h (fun h=>?_) fun spots frozen h=>?_
   ·
    refine K1 7 Y<|QI [some ⟨80, [[.own 1 y3.length, .nils, .int .i64 copies, .bool false, .bool false, .int .i64 0, .bool false]]⟩, some ⟨60, List.map O60 y3⟩] Y<|Tr<|Rm Y<|Rq Y (Zt (ov Y) Y Y)<|Rq Y (Zg (ov Y) Y Y ZdL)<|Rq Y (Zg (ov Y) Y Y Zda)<|Rq Y (Zs (ov Y) Y Y Y Zhq Y)<|Rq Y (ZdU (ov Y) Y Y Zcm)<|Rm Y<|Za<|Zh<|?_
    obtain ⟨r1, hl1, ho1⟩ := QV h
    refine L3 (fun spots2 frozen2 i=>⟨[(7, .ptr 0 1 0 0), (37, .own 1 y3.length), (38, .int .i64 (y3.length : Int)), (39, .int .i64 i)], [some ⟨80, [[.own 1 y3.length, .own 2 spots2.length, .int .i64 copies, .bool frozen2, .bool false, .int .i64 0, .bool false]]⟩, some ⟨60, List.map O60 y3⟩, some ⟨83, List.map R83 spots2⟩]⟩) hl1 (ES [some 0, some 1, none] (hhp := .cons Y (ro1 (by exact tZ_80.symm)<|rlc (.own _ Y)<|rlc (.row Y)<|rlc (.dat Y)<|rlc (.dat Y)<|rlc (.dat Y)<|rlc (.dat Y)<|rlc (.dat Y) rln)<|.cons Y (roO Q9)<|.row 83 .nil)) fun n1 spots2 frozen2 i h=>?_
    unfold Zbk at h
    refine Tr<|R2 ZV Y<|Za<|Zi<|If h Y (fun h=>?_) fun h=>?_
    ·
     refine Zl<|Zi<|Zh<|K4 7 37 38 39 Y<|Tr<|bE h fun x h_x h=>Rq Y (XE (ov Y) (ov Y) Zcm Y Y h_x)<|Qx (Ent.focusH (r := 1) (j := 2) (e' := 29) (g := O29) (ys := x.Sectors) Y (Zv h_x).2 Y Q8)<|Qx (Ent.focusI (r := 1) (j := 3) (e' := 3) (g := R3) (ys := x.Wear) Y (Zv h_x).2 Y DR3)<|Qx (Ent.focusI (r := 1) (j := 4) (e' := 4) (g := R4) (ys := x.Bad) Y (Zv h_x).2 Y DR4)<|Rq Y (Zjs (ov Y) Y Y (Zv h_x).2 XT Y Y)<|Rx Y (ZW (row := [_, _, _, _, _]) 6 Y ZcK Y tZ_60)<|Rx Y (Zj (ov Y) (ov Y) (Zw XT Y) Y Y Y (Nat.le_of_ble_eq_true Y) (Zb Y) Y)<|ZdZ [some ⟨80, [[.own 1 y3.length, .own 2 spots2.length, .int .i64 copies, .bool frozen2, .bool false, .int .i64 0, .bool false]]⟩, some ⟨60, List.set (List.map O60 y3) i.toNat [.int .i64 x.Slots, .int .i64 x.Limit, .own 3 x.Sectors.length, .own 4 x.Wear.length, .own 5 x.Bad.length]⟩, some ⟨83, List.map R83 spots2⟩, some ⟨29, List.map O29 x.Sectors⟩, some ⟨3, List.map R3 x.Wear⟩, some ⟨4, List.map R4 x.Bad⟩, some ⟨60, [[.int .i64 x.Slots, .int .i64 x.Limit, .own 3 x.Sectors.length, .own 4 x.Wear.length, .own 5 x.Bad.length]]⟩] Y<|Za<|K5 7 9 37 38 39 Y<|Tr<|Rq Y (Qg (ov Y) Y Y Y XT Y Y)<|bE h fun y4 h_y4 h=>Rq Y (ZbY (ZfL h_y4) (.agg<|by simp only [List.mem_cons, List.not_mem_nil, or_false, forall_eq_or_imp, forall_eq]; exact ⟨.int, .int⟩)<|.cons (ov Y) (View.aggL<|.cons (Dat.view<|.b Y)<|.cons (Dat.view<|.b Y)<|.cons (View.ownO Y Y Q8 (fun x=>(D29 x).1) ZkK)<|.cons (View.ownM Y Y D3)<|.cons (View.ownM Y Y D4) .nil) .nil)<|Rx Y (ZW (row := [_, _]) 7 Y ZiU Y tZ_83)<|Rx Y (Zj (ov Y) (ov Y) (Zw Zhv Y) Y Y Y (Nat.le_of_ble_eq_true Y) (Zb Y) Y)<|ZdZ [some ⟨80, [[.own 1 y3.length, .own 2 spots2.length, .int .i64 copies, .bool frozen2, .bool false, .int .i64 0, .bool false]]⟩, some ⟨60, List.set (List.map O60 y3) i.toNat [.int .i64 x.Slots, .int .i64 x.Limit, .own 3 x.Sectors.length, .own 4 x.Wear.length, .own 5 x.Bad.length]⟩, some ⟨83, List.map R83 spots2⟩, some ⟨29, List.map O29 x.Sectors⟩, some ⟨3, List.map R3 x.Wear⟩, some ⟨4, List.map R4 x.Bad⟩, some ⟨60, [[.int .i64 x.Slots, .int .i64 x.Limit, .own 3 x.Sectors.length, .own 4 x.Wear.length, .own 5 x.Bad.length]]⟩, some ⟨83, [[.int .i64 y4.sector, .int .i64 y4.slot]]⟩] Y<|Za<|Zi<|K6 7 9 10 37 38 39 Y<|Ql (cw := md0) (by kernel_rfl)<|D1 1 Zc Y<|Dq 2 Y (Zt (ov Y) Y Y)<|Dq 3 Y (Zg (ov Y) Y Y ZdL)<|Dq 4 Y (Zg (ov Y) Y Y Zev)<|Dq 5 Y (Zs (ov Y) Y Y Y Zik Y)<|Dq 6 Y (Qg (ov Y) Y Y Y Zhv Y Y)<|Zkc 7 (.sl 83<|List.map R83 ([y4] : List ring_spot)) Y (by kernel_rfl) Y Y (XH Zif (.cons (cva<|ov Y) Y (pwD Y) .nil) Y Y)<|ZY 0 _ Y (by kernel_rfl) Y Y (fun hp'=>Zc<|ov Y)<|bE h fun l2 h_l2 h=>Do 8 Y (QA (ov Y) (QR (ov Y) tZ_83) Zif Y Y Y (fun _=>Zb Y) Y h_l2)<|Dq 9 Y (Zt (ov Y) Y Y)<|Dq 10 Y (Zg (ov Y) Y Y ZdL)<|Dq 11 Y (Zg (ov Y) Y Y Zev)<|Do 12 Y (Zj (ov Y) (ov Y) (Ze Zik) Y Y Y (Nat.le_of_ble_eq_true Y) (Zb Y) Y)<|Dd<|K6 7 9 10 37 38 39 Y<|QI [some ⟨80, [[.own 1 y3.length, .own 2 l2.length, .int .i64 copies, .bool frozen2, .bool false, .int .i64 0, .bool false]]⟩, some ⟨60, List.set (List.map O60 y3) i.toNat [.int .i64 x.Slots, .int .i64 x.Limit, .own 3 x.Sectors.length, .own 4 x.Wear.length, .own 5 x.Bad.length]⟩, some ⟨83, List.map R83 l2⟩, some ⟨29, List.map O29 x.Sectors⟩, some ⟨3, List.map R3 x.Wear⟩, some ⟨4, List.map R4 x.Bad⟩, some ⟨60, [[.int .i64 x.Slots, .int .i64 x.Limit, .own 3 x.Sectors.length, .own 4 x.Wear.length, .own 5 x.Bad.length]]⟩, some ⟨83, [[.int .i64 y4.sector, .int .i64 y4.slot]]⟩] Y<|Tr<|Rq Y (Zg (ov Y) Y Y ZfP)<|Rq Y (Zs (ov Y) Y Y Y tS3 Y)<|R2 ZgG Y<|Za<|K7 7 9 10 37 38 39 59 Y<|If h Y (fun h=>?_) fun h=>?_
     ·
      exact K6 7 9 10 37 38 39 Y<|Tr<|Rq Y (Zg (ov Y) Y Y ZE)<|Rq Y (Zs (ov Y) Y Y Y Z2 Y)<|Rq Y (Zg (ov Y) Y Y ZfP)<|Rq Y (Zs (ov Y) Y Y Y tS3 Y)<|bE h fun x2 h_x2 h=>Rq Y (XE (ov Y) (ov Y) ZU Y Y h_x2)<|Qx (Ent.focusH (r := 3) (j := 0) (e' := 5) (g := R5) (ys := x2) Y (Zv h_x2).2 Y DR5)<|Rq Y (Zbs (ov Y) Y Y (Zv h_x2).2 Zgd Y)<|bE h fun y5 h_y5 h=>Rq Y (ZbY (Zaw h_y5) (.tuple<|by simp only [List.mem_cons, List.not_mem_nil, or_false, forall_eq_or_imp, forall_eq]; exact ⟨.int, .bool, .bool⟩)<|.cons (ov Y) (View.ownM Y Y D5) .nil)<|Rm Y<|Rq Y (Zn (ov Y) Y)<|Rq Y (Zn (ov Y) Y)<|Rq Y (Zn (ov Y) Y)<|Ra Y<|Ra Y<|Ra Y<|ZdZ [some ⟨80, [[.own 1 y3.length, .own 2 l2.length, .int .i64 copies, .bool frozen2, .bool false, .int .i64 0, .bool false]]⟩, some ⟨60, List.set (List.map O60 y3) i.toNat [.int .i64 x.Slots, .int .i64 x.Limit, .own 3 x.Sectors.length, .own 4 x.Wear.length, .own 5 x.Bad.length]⟩, some ⟨83, List.map R83 l2⟩, some ⟨29, List.set (List.map O29 x.Sectors) y4.sector.toNat [.own 8 x2.length]⟩, some ⟨3, List.map R3 x.Wear⟩, some ⟨4, List.map R4 x.Bad⟩, some ⟨60, [[.int .i64 x.Slots, .int .i64 x.Limit, .own 3 x.Sectors.length, .own 4 x.Wear.length, .own 5 x.Bad.length]]⟩, some ⟨83, [[.int .i64 y4.sector, .int .i64 y4.slot]]⟩, some ⟨5, List.map R5 x2⟩] Y<|Qx (Ent.absorbH (r := 3) (j := 0) (q := 8) Y (Zv h_x2).2 Y Y (List.length_map ..) Y)<|Qx (Ent.closeS (r := 3) Y (Zv h_x2).2 Y)<|Qx (Ent.absorbH (r := 1) (j := 2) (q := 3) Y (Zv h_x).2 Y Y (List.length_map ..) Y)<|Qx (Ent.absorbH (r := 1) (j := 3) (q := 4) Y (Zv h_x).2 Y Y (List.length_map ..) Y)<|Qx (Ent.absorbH (r := 1) (j := 4) (q := 5) Y (Zv h_x).2 Y Y (List.length_map ..) Y)<|Qx (Ent.closeS (r := 1) Y (Zv h_x).2 Y)<|Za<|K5 7 12 37 38 39 Y<|QI [some ⟨80, [[.own 1 y3.length, .own 2 l2.length, .int .i64 copies, .bool frozen2, .bool false, .int .i64 0, .bool false]]⟩, some ⟨60, List.map O60 y3⟩, some ⟨83, List.map R83 l2⟩, none, none, none, some ⟨60, [[.int .i64 x.Slots, .int .i64 x.Limit, .own 3 x.Sectors.length, .own 4 x.Wear.length, .own 5 x.Bad.length]]⟩, some ⟨83, [[.int .i64 y4.sector, .int .i64 y4.slot]]⟩, none] Y<|Zu<|Rm Y<|Rm Y<|Rq Y (Zt (ov Y) Y Y)<|Rq Y (Zg (ov Y) Y Y Zii)<|Rq Y (Zs (ov Y) Y Y Y tS4 Y)<|Rm Y<|Rq Y (.guarded (frozen2 == false) Y Y Y Y fun h => Zc<|ov Y)<|Rq Y (Zdv (ov Y) fun hp=>ow Y<|gF hp)<|Rq Y (Zt (ov Y) Y Y)<|Rq Y (Zg (ov Y) Y Y Zii)<|Rx Y (Zj (ov Y) (ov Y) (Ze tS4) Y Y Y (Nat.le_of_ble_eq_true Y) (Zb Y) Y)<|Za<|K4 7 37 38 39 Y<|QI [some ⟨80, [[.own 1 y3.length, .own 2 l2.length, .int .i64 copies, .bool (frozen2 || y5.2.1), .bool false, .int .i64 0, .bool false]]⟩, some ⟨60, List.map O60 y3⟩, some ⟨83, List.map R83 l2⟩, none, none, none, some ⟨60, [[.int .i64 x.Slots, .int .i64 x.Limit, .own 3 x.Sectors.length, .own 4 x.Wear.length, .own 5 x.Bad.length]]⟩, some ⟨83, [[.int .i64 y4.sector, .int .i64 y4.slot]]⟩, none] Y<|Zu<|R2 ZO Y<|Rm Y<|Za<|⟨_, h, ES [some 0, some 1, some 2] (hhp := .cons Y (ro1 (by exact tZ_80.symm)<|rlc (.own _ Y)<|rlc (.own _ Y)<|rlc (.dat Y)<|rlc (.dat Y)<|rlc (.dat Y)<|rlc (.dat Y)<|rlc (.dat Y) rln)<|.cons Y (roO Q9)<|.cons Y (roM D83) .nil)⟩
     ·
      exact Zl<|K4 7 37 38 39 Y<|Zu<|R2 ZO Y<|Rm Y<|Qx (Ent.absorbH (r := 1) (j := 2) (q := 3) Y (Zv h_x).2 Y Y (List.length_map ..) Y)<|Qx (Ent.absorbH (r := 1) (j := 3) (q := 4) Y (Zv h_x).2 Y Y (List.length_map ..) Y)<|Qx (Ent.absorbH (r := 1) (j := 4) (q := 5) Y (Zv h_x).2 Y Y (List.length_map ..) Y)<|Qx (Ent.closeS (r := 1) Y (Zv h_x).2 Y)<|Za<|⟨_, h, ES [some 0, some 1, some 2] (hhp := .cons Y (ro1 (by exact tZ_80.symm)<|rlc (.own _ Y)<|rlc (.own _ Y)<|rlc (.dat Y)<|rlc (.dat Y)<|rlc (.dat Y)<|rlc (.dat Y)<|rlc (.dat Y) rln)<|.cons Y (roO Q9)<|.cons Y (roM D83) .nil)⟩
    ·
     refine ZG<|?_
     replace h := lx h ▸ ho1
     exact ⟨_, h, ES [some 0, some 1, some 2] (hhp := .cons Y (ro1 (by exact tZ_80.symm)<|rlc (.own _ Y)<|rlc (.own _ Y)<|rlc (.dat Y)<|rlc (.dat Y)<|rlc (.dat Y)<|rlc (.dat Y)<|rlc (.dat Y) rln)<|.cons Y (roO Q9)<|.cons Y (roM D83) .nil)⟩
   ·
    refine Tr<|Rm Y<|Ra Y<|Ra Y<|Za<|?_
    obtain rfl := rt h
    exact Zq<|Zao [some 0, some 1, some 2] Y (.cons (.tmp Y)<|.cons (.tmp Y) .nil) (.cons Y (ro1 (by exact tZ_80.symm)<|rlc (.own _ Y)<|rlc (.own _ Y)<|rlc (.dat Y)<|rlc (.dat Y)<|rlc (.dat Y)<|rlc (.dat Y)<|rlc (.dat Y) rln)<|.cons Y (roO Q9)<|.cons Y (roM D83) .nil) Y Y<|XG<|rlc (.ptr _ _ _ Y)<|rlc (.dat Y) rln
theorem Zea {l : List api_Memory} {copies : Int} {r : Int} (h : Zac l copies = some (.inl r)) :
    GSpec Tryd.prog gl0 13 [.sl 60 (List.map R60 l), .int .i64 copies] [] (.tuple [.lit (.pointer none), .int .i64 r]) [] := Zdj h
theorem Zec {l : List api_Memory} {copies : Int} {r : ring_Recorder × Int} (h : Zac l copies = some (.inr r)) :
    GSpec Tryd.prog gl0 13 [.sl 60 (List.map R60 l), .int .i64 copies] [] (.tuple [.ptr 0 1 0 0, .int .i64 r.2]) [some ⟨80, [[.own 1 r.1.bank.memories.length, .own 2 r.1.bank.spots.length, .int .i64 r.1.copies, .bool r.1.frozen, .bool r.1.stopped, .int .i64 r.1.last, .bool r.1.some_]]⟩, some ⟨60, List.map O60 r.1.bank.memories⟩, some ⟨83, List.map R83 r.1.bank.spots⟩] := Zdj h
theorem ZdA {r_ : ring_Recorder} {power : Int} {r : Int} (h : Q6 r_ power = some r) :
 CSpec Tryd.prog gl0 33 [.rp [.sl 60 (List.map R60 r_.bank.memories), .sl 83 (List.map R83 r_.bank.spots), .int .i64 r_.copies, .bool r_.frozen, .bool r_.stopped, .int .i64 r_.last, .bool r_.some_] 0, .int .i64 power] (.int .i64 r) := by
 unfold Q6 at h
 replace h := Z4 h
 refine So Tryd.func33 Y fun w0 A=>Tr<|Ra Y<|Za<|Zi<|Zh<|K2 0 1 Y<|Tr<|Rm Y<|R1 ZA Y<|Rq Y (ZQ (ov Y) Zjo)<|Rq Y (Zd (ov Y) tS4 Y)<|Ra Y<|Za<|K3 0 1 5 Y<|If h Y (fun h=>?_) fun h=>?_
 ·
  refine K0<|Tr<|Ra Y<|Za<|?_
  obtain rfl := rt h
  exact Zq (ZJ Y (.one<|rb Y))
 ·
  refine K2 0 1 Y<|Tr<|Rm Y<|R1 ZA Y<|Rq Y (ZQ (ov Y) Zii)<|Rq Y (Zd (ov Y) tS4 Y)<|Ra Y<|Za<|K2 1 10 Y<|If h Y (fun h=>?_) fun h=>?_
  ·
   refine K0<|Tr<|Ra Y<|Za<|?_
   obtain rfl := rt h
   exact Zq (ZJ Y (.one<|rb Y))
  ·
   refine K1 1 Y<|Tr<|Rm Y<|bE h fun y h_y h=>Rq Y (Zp (ZL h_y)<|.cons (ov Y) (.b Y)<|.cons (ov Y) (.b Y)<|.cons (ov Y) (.b Y) .nil)<|R1 XU Y<|Ra Y<|Za<|K1 15 Y<|If h Y (fun h=>?_) fun h=>?_
   ·
    refine K0<|Tr<|Ra Y<|Za<|?_
    obtain rfl := rt h
    exact Zq (ZJ Y (.one<|rb Y))
   ·
    refine Zl<|K0<|Tr<|Ra Y<|Za<|?_
    obtain rfl := rt h
    exact Zq (ZJ Y (.one<|rb Y))
theorem X2 {w : Int} {r : Int} (h : Xm w = some r) :
 CSpec Tryd.prog gl0 56 [.int .u16 w] (.int .i64 r) := by
 unfold Xm at h
 replace h := Z4 h
 refine So Tryd.func56 Y fun w0 A=>Tr<|Ra Y<|Za<|Tr<|Rm Y<|R2 J4 Y<|Rq Y (Qi (ov Y) Zcq tI3 Y)<|Ra Y<|Za<|?_
 obtain rfl := rt h
 exact Zq (ZJ Y (.one<|rb Y))
theorem Zcy {f : Vector Int 64} {r : Int} (h : XB f = some r) :
 CSpec Tryd.prog gl0 54 [.rp (List.map C42 f.toList) 0] (.int .i64 r) := by
 unfold XB at h
 replace h := Z4 h
 refine So Tryd.func54 Y fun w0 A=>Tr<|Ra Y<|Za<|Zi<|Ql (cw := md0) (by kernel_rfl)<|D1 0 Zc Y<|D1 1 ZA Y<|bE h fun x h_x h=>Dq 2 Y (Qr (ov Y) (ov Y) JH h_x)<|Dq 3 Y (Zd (ov Y) ZaW<|Qd<|Q1 (o := 0) (o' := ((Int.toNat 1) * 1)) (Zr arL)<|Q4 h_x)<|bE h fun y h_y h=>Dq 4 Y (Zp (X2 h_y)<|.cons (ov Y) (.b Y) .nil)<|D1 5 Zc Y<|D1 6 ZA Y<|bE h fun x2 h_x2 h=>Dq 7 Y (Qr (ov Y) (ov Y) JH h_x2)<|Dq 8 Y (Zd (ov Y) ZaW<|Qd<|Q1 (o := 0) (o' := ((Int.toNat 2) * 1)) (Zr arL)<|Q4 h_x2)<|bE h fun y2 h_y2 h=>Dq 9 Y (Zp (X2 h_y2)<|.cons (ov Y) (.b Y) .nil)<|bE h fun q h_q h=>Dq 10 Y (Zc0 (ov Y) (ov Y) h_q)<|D2 11 Zep Y<|D1 12 Z9 Y<|Dd<|?_
 obtain rfl := rt h
 exact Zq (ZJ Y (.one<|rb Y))
theorem Zd7 {x : Int} {r : Int} (h : XA x = some r) :
 CSpec Tryd.prog gl0 78 [.int .u16 x] (.int .i64 r) := by
 unfold XA at h
 replace h := Z4 h
 refine So Tryd.func78 Y fun w0 A=>Tr<|Ra Y<|Za<|Zi<|Ql (cw := md0) (by kernel_rfl)<|D1 0 Zc Y<|bE h fun q h_q h=>Dq 1 Y (ZbH (ov Y) (ov Y) h_q)<|bE h fun b h_b h=>Dq 2 Y (ZhI (ov Y) (ov Y) Zkh h_b)<|D1 3 Zc Y<|D2 4 J4 Y<|bE h fun b2 h_b2 h=>Dq 5 Y (ZhI (ov Y) (ov Y) Zkh h_b2)<|D2 6 ZO Y<|Dq 7 Y (Qi (ov Y) tI5 tI3 Y)<|D1 8 Z9 Y<|Dd<|?_
 obtain rfl := rt h
 exact Zq (ZJ Y (.one<|rb Y))
theorem Zc8 {w : Int} {r : Bool} (h : Zbh w = some r) :
 CSpec Tryd.prog gl0 55 [.int .u16 w] (.bool r) := by
 unfold Zbh at h
 replace h := Z4 h
 refine So Tryd.func55 Y fun w0 A=>Tr<|Ra Y<|Za<|Tr<|Rm Y<|R2 Zhb Y<|Rm Y<|Rq Y (.guarded ((decide (w ≤ 4095)) == true) Y Y Y Y fun h => Zc<|ov Y)<|bE h fun y h_y h=>Rq Y (.guarded ((decide (w ≤ 4095)) == true) Y Y Y Y fun h => Zp (Zd7<|gdT h_y h)<|.cons (ow Y h) (.b Y) .nil)<|bE h fun q h_q h=>Rq Y (.guarded ((decide (w ≤ 4095)) == true) Y Y Y Y fun h => Jf (ow Y h) (ov Y)<|gdT h_q h)<|Rq Y (.guarded ((decide (w ≤ 4095)) == true) Y Y Y Y fun h => ZbQ (ow Y h)<|ov Y)<|Rq Y (Zch (ov Y) fun hp=>ow Y<|gT hp)<|Ra Y<|Za<|?_
 obtain rfl := rt h
 exact Zq (ZJ Y (.one<|rb Y))
theorem Zgm {f : Vector Int 64} {r : Int} (h : Zbq f = some r) :
 CSpec Tryd.prog gl0 57 [.rp (List.map C42 f.toList) 0] (.int .i64 r) := by
 unfold Zbq at h
 replace h := Z4 h
 refine So Tryd.func57 Y fun w0 A=>Tr<|Ra Y<|Za<|K1 0 Y<|Tr<|Ra Y<|Za<|I1 (fun n=>⟨[(3, .int .i64 n)], []⟩) h (fun h=>?_) fun n h=>?_
 ·
  refine Tr<|Rm Y<|Za<|Zh<|?_
  obtain ⟨r1, hl1, ho1⟩ := QV h
  refine L2 (fun n2 i=>⟨[(0, .rp (List.map C42 f.toList) 0), (3, .int .i64 n2), (5, .int .i64 i)], []⟩) hl1 (ES []) fun n1 n2 i h=>?_
  unfold ZaB at h
  refine Tr<|R2 ZV Y<|Za<|Zi<|If h Y (fun h=>?_) fun h=>?_
  ·
   exact Zl<|Zi<|Zh<|K3 0 3 5 Y<|Tr<|Rm Y<|Ra Y<|Za<|K4 0 3 4 5 Y<|Zu<|Rm Y<|Rm Y<|Rm Y<|R2 ZO Y<|R1 ZA Y<|bE h fun x h_x h=>Rq Y (Qr (ov Y) (ov Y) JH h_x)<|Rq Y (Zd (ov Y) ZaW<|Qd<|Q1 (o := 0) (o' := ((i64 (i + 1)).toNat * 1)) (Zr arL)<|Q4 h_x)<|bE h fun y h_y h=>Rq Y (Zp (X2 h_y)<|.cons (ov Y) (.b Y) .nil)<|R2 Zhj Y<|Ra Y<|Za<|K3 0 3 5 Y<|Zu<|R2 ZO Y<|Rm Y<|Za<|⟨_, h, ES []⟩
  ·
   refine ZG<|?_
   replace h := lx h ▸ ho1
   exact ⟨_, h, ES []⟩
 ·
  refine Tr<|Rm Y<|Ra Y<|Za<|?_
  obtain rfl := rt h
  exact Zq (ZJ Y (.one<|rb Y))
theorem Zfy {f : Vector Int 64} {r : Int} (h : JO f = some r) :
 CSpec Tryd.prog gl0 58 [.rp (List.map C42 f.toList) 0] (.int .i64 r) := by
 unfold JO at h
 replace h := Z4 h
 refine So Tryd.func58 Y fun w0 A=>Tr<|Ra Y<|Za<|K1 0 Y<|Tr<|Ra Y<|Za<|I1 (fun n=>⟨[(3, .int .i64 n)], []⟩) h (fun h=>?_) fun n h=>?_
 ·
  refine Tr<|Rm Y<|Za<|Zh<|?_
  obtain ⟨r1, hl1, ho1⟩ := QV h
  refine L2 (fun n2 i=>⟨[(0, .rp (List.map C42 f.toList) 0), (3, .int .i64 n2), (7, .int .i64 i)], []⟩) hl1 (ES []) fun n1 n2 i h=>?_
  unfold Jy at h
  refine Tr<|R2 ZV Y<|Za<|Zi<|If h Y (fun h=>?_) fun h=>?_
  ·
   refine Zl<|I1 (fun n3=>⟨[(0, .rp (List.map C42 f.toList) 0), (3, .int .i64 n3), (7, .int .i64 i)], []⟩) h (fun h=>?_) fun n3 h=>?_
   ·
    refine Zh<|K3 0 3 7 Y<|Tr<|Rm Y<|Ra Y<|Za<|K4 0 3 4 7 Y<|Tr<|Ra Y<|Za<|Zh<|?_
    obtain ⟨r2, hl2, ho2⟩ := QV h
    refine L2 (fun n4 k=>⟨[(0, .rp (List.map C42 f.toList) 0), (3, .int .i64 n4), (4, .int .i64 i), (5, .int .i64 k), (7, .int .i64 i)], []⟩) hl2 (ES []) fun n2 n4 k h=>?_
    unfold Jo at h
    refine Zi<|Tr<|Rm Y<|R2 ZgG Y<|Za<|K6 0 3 4 5 7 11 Y<|If h Y (fun h=>?_) fun h=>?_
    ·
     refine Zl<|Zi<|Zh<|K5 0 3 4 5 7 Y<|Tr<|Rm Y<|R2 J4 Y<|R2 XZ Y<|Ra Y<|Za<|K6 0 3 4 5 6 7 Y<|Tr<|Rm Y<|bE h fun q h_q h=>Rq Y (Zc0 (ov Y) (ov Y) h_q)<|R2 J4 Y<|Ra Y<|Za<|K6 0 3 4 5 6 7 Y<|Tr<|Rm Y<|Rm Y<|Rm Y<|R1 ZA Y<|bE h fun x h_x h=>Rq Y (Qr (ov Y) (ov Y) JH h_x)<|Rq Y (Zd (ov Y) ZaW<|Qd<|Q1 (o := 0) (o' := (i.toNat * 1)) (Zr arL)<|Q4 h_x)<|Rm Y<|bE h fun q2 h_q2 h=>Rq Y (ZbH (ov Y) (ov Y) h_q2)<|R2 J4 Y<|R2 ZbQ Y<|Rq Y (Zjf .neq (by simp) (ov Y) (ov Y) tB4)<|Za<|K6 0 3 4 5 7 30 Y<|If h Y (fun h=>?_) fun h=>?_
     ·
      exact K5 0 3 4 5 7 Y<|Zu<|Rm Y<|R2 Zhj Y<|Ra Y<|Za<|K5 0 3 4 5 7 Y<|Zu<|Rm Y<|R2 ZgB Y<|Ra Y<|Za<|⟨_, h, ES []⟩
     ·
      exact Zl<|K5 0 3 4 5 7 Y<|Zu<|Rm Y<|R2 ZgB Y<|Ra Y<|Za<|⟨_, h, ES []⟩
    ·
     refine ZG<|?_
     replace h := lx h ▸ ho2
     exact ⟨_, h, ES []⟩
   ·
    exact Zu<|R2 ZO Y<|Rm Y<|Za<|⟨_, h, ES []⟩
  ·
   refine ZG<|?_
   replace h := lx h ▸ ho1
   exact ⟨_, h, ES []⟩
 ·
  refine Tr<|Rm Y<|Ra Y<|Za<|?_
  obtain rfl := rt h
  exact Zq (ZJ Y (.one<|rb Y))
theorem ZdO {f : Vector Int 64} {r : (List api_Flaw)} (h : Zak f = some r) :
 CSpec Tryd.prog gl0 34 [.agg (List.map C42 f.toList)] (.sl 114 (List.map R114 r)) := by
 unfold Zak at h
 replace h := Z4 h
 refine So Tryd.func34 Y fun w0 A=>Tr<|Rq Y (ZcJ (cva<|ov Y) arL tZ_44<|arD fun _ => Y)<|Ra Y<|Za<|K1 1 Y<|Tr<|Ra Y<|Za<|I1 (fun out=>⟨[(1, .rp (List.map C42 f.toList) 0), (3, .own 0 out.length)], [some ⟨114, List.map R114 out⟩]⟩) h (fun h=>?_) fun out h=>?_
 ·
  refine Tr<|Rq Y (QW (ov Y) XF (Qp<|Zr arL) arL)<|Rm Y<|Za<|Zh<|?_
  obtain ⟨r1, hl1, ho1⟩ := QV h
  refine L2 (fun out2 i=>⟨[(1, .rp (List.map C42 f.toList) 0), (3, .own 0 out2.length), (7, .agg (List.map C42 f.toList)), (8, .int .i64 i)], [some ⟨114, List.map R114 out2⟩]⟩) hl1 (ES [none]) fun n1 out2 i h=>?_
  unfold Zaq at h
  refine Tr<|R2 ZV Y<|Za<|Zi<|If h Y (fun h=>?_) fun h=>?_
  ·
   refine Zl<|Zi<|Zh<|K4 1 3 7 8 Y<|Tr<|Rm Y<|bE h fun x h_x h=>Rq Y (Zhi (ov Y) (ov Y) JH ZaW h_x)<|Ra Y<|Ra Y<|Za<|K6 1 3 4 5 7 8 Y<|Tr<|Rm Y<|R2 Zb8 Y<|Za<|K6 1 3 4 7 8 13 Y<|If h Y (fun h=>?_) fun h=>?_
   ·
    exact K5 1 3 4 7 8 Y<|Zu<|Rm Y<|Rm Y<|Rq Y (Xl (ys := [_, _]) ZgM ZgF Zh0 (.cons (cvs (ov Y)<|Zk Y)<|.cons (cvs (ov Y)<|Zk Y) .nil) Y)<|R_q (.sl 114<|List.map R114 ([(api_Flaw.mk i 5)] : List api_Flaw)) Y (XH ZfH (.cons (cva<|ov Y) Y (pwD Y) .nil) Y Y)<|bE h fun l h_l h=>Rx Y (QA (ov Y) (QR (ov Y) tZ_114) ZfH Y Y Y (fun _=>Zb Y) Y h_l)<|Ra Y<|Za<|K4 1 3 7 8 Y<|Zu<|R2 ZO Y<|Rm Y<|Za<|⟨_, h, ES [some 0]⟩
   ·
    exact Zl<|K4 1 3 7 8 Y<|Zu<|R2 ZO Y<|Rm Y<|Za<|⟨_, h, ES [some 0]⟩
  ·
   refine ZG<|?_
   replace h := lx h ▸ ho1
   exact ⟨_, h, ES [some 0]⟩
 ·
  refine Zi<|Tr<|Rm Y<|Rq Y (ZdU (ov Y) Y Y ZfH)<|R2 Zb8 Y<|Za<|K3 1 3 22 Y<|If h Y (fun h=>?_) fun h=>?_
  ·
   refine K1 3 Y<|Tr<|Rm Y<|Ra Y<|Za<|?_
   obtain rfl := rt h
   exact Zq (ZJ Y (.one<|.tmp Y<|View.ownM Y Y D114))
  ·
   refine Zl<|I1 (fun out3=>⟨[(1, .rp (List.map C42 f.toList) 0), (3, .own 0 out3.length)], [some ⟨114, List.map R114 out3⟩]⟩) h (fun h=>?_) fun out3 h=>?_
   ·
    refine Zi<|K2 1 3 Y<|Ql (cw := md0) (by kernel_rfl)<|bE h fun x2 h_x2 h=>Dq 0 Y (Qr (ov Y) (ov Y) JH h_x2)<|Dq 1 Y (Zd (ov Y) ZaW<|Qd<|Q1 (o := 0) (o' := ((Int.toNat 0) * 1)) (Zr arL)<|Q4 h_x2)<|bE h fun y h_y h=>Dq 2 Y (Zp (Zcy h_y)<|.cons (ov Y) (.b Y) .nil)<|bE h fun q h_q h=>Dq 3 Y (Jf (ov Y) (ov Y) h_q)<|bE h fun x3 h_x3 h=>Dq 4 Y (Qr (og (v := gv_frame_syncs) (k := .u16) (f := C42) (by simp [gl0]) fun _=>Y) (ov Y) ZkX h_x3)<|Dq 5 Y (Zd (ov Y) ZaW<|Qd<|Q1 (o := 0) (o' := (q.toNat * 1)) (Zr arL)<|Q4 h_x3)<|D2 6 XZ Y<|Dd<|K3 1 3 30 Y<|If h Y (fun h=>?_) fun h=>?_
    ·
     exact K2 1 3 Y<|Zu<|Rm Y<|Rq Y (Xl (ys := [_, _]) ZgM ZgF Zh0 (.cons (cvs (ov Y)<|Zk Y)<|.cons (cvs (ov Y)<|Zk Y) .nil) Y)<|R_q (.sl 114<|List.map R114 ([(api_Flaw.mk 0 1)] : List api_Flaw)) Y (XH ZfH (.cons (cva<|ov Y) Y (pwD Y) .nil) Y Y)<|bE h fun l2 h_l2 h=>Rx Y (QA (ov Y) (QR (ov Y) tZ_114) ZfH Y Y Y (fun _=>Zb Y) Y h_l2)<|Ra Y<|Za<|⟨_, h, ES [some 0]⟩
    ·
     exact Zl<|⟨_, h, ES [some 0]⟩
   ·
    refine I1 (fun out4=>⟨[(1, .rp (List.map C42 f.toList) 0), (3, .own 0 out4.length)], [some ⟨114, List.map R114 out4⟩]⟩) h (fun h=>?_) fun out4 h=>?_
    ·
     refine Tr<|Ra Y<|Za<|Zh<|?_
     obtain ⟨r2, hl2, ho2⟩ := QV h
     refine L2 (fun out5 i2=>⟨[(1, .rp (List.map C42 f.toList) 0), (3, .own 0 out5.length), (6, .int .i64 i2)], [some ⟨114, List.map R114 out5⟩]⟩) hl2 (ES [some 0]) fun n2 out5 i2 h=>?_
     unfold ZaG at h
     refine Zi<|Tr<|Rm Y<|R2 ZV Y<|Za<|K4 1 3 6 36 Y<|If h Y (fun h=>?_) fun h=>?_
     ·
      refine Zl<|Zi<|Zh<|K3 1 3 6 Y<|Tr<|Rm Y<|bE h fun x4 h_x4 h=>Rq Y (Qr (ov Y) (ov Y) JH h_x4)<|Rq Y (Zd (ov Y) ZaW<|Qd<|Q1 (o := 0) (o' := (i2.toNat * 1)) (Zr arL)<|Q4 h_x4)<|bE h fun y2 h_y2 h=>Rq Y (Zp (Zc8 h_y2)<|.cons (ov Y) (.b Y) .nil)<|R1 XU Y<|Za<|K4 1 3 6 43 Y<|If h Y (fun h=>?_) fun h=>?_
      ·
       exact K3 1 3 6 Y<|Zu<|Rm Y<|Rm Y<|Rq Y (Xl (ys := [_, _]) ZgM ZgF Zh0 (.cons (cvs (ov Y)<|Zk Y)<|.cons (cvs (ov Y)<|Zk Y) .nil) Y)<|R_q (.sl 114<|List.map R114 ([(api_Flaw.mk i2 2)] : List api_Flaw)) Y (XH ZfH (.cons (cva<|ov Y) Y (pwD Y) .nil) Y Y)<|bE h fun l3 h_l3 h=>Rx Y (QA (ov Y) (QR (ov Y) tZ_114) ZfH Y Y Y (fun _=>Zb Y) Y h_l3)<|Ra Y<|Za<|K3 1 3 6 Y<|Zu<|Rm Y<|R2 ZO Y<|Ra Y<|Za<|⟨_, h, ES [some 0]⟩
      ·
       exact Zl<|K3 1 3 6 Y<|Zu<|Rm Y<|R2 ZO Y<|Ra Y<|Za<|⟨_, h, ES [some 0]⟩
     ·
      refine ZG<|?_
      replace h := lx h ▸ ho2
      exact ⟨_, h, ES [some 0]⟩
    ·
     refine I1 (fun out6=>⟨[(1, .rp (List.map C42 f.toList) 0), (3, .own 0 out6.length)], [some ⟨114, List.map R114 out6⟩]⟩) h (fun h=>?_) fun out6 h=>?_
     ·
      refine Tr<|bE h fun x5 h_x5 h=>Rq Y (Qr (ov Y) (ov Y) JH h_x5)<|Rq Y (Zd (ov Y) ZaW<|Qd<|Q1 (o := 0) (o' := ((Int.toNat 61) * 1)) (Zr arL)<|Q4 h_x5)<|bE h fun y3 h_y3 h=>Rq Y (Zp (X2 h_y3)<|.cons (ov Y) (.b Y) .nil)<|bE h fun y4 h_y4 h=>Rq Y (Zp (Zgm h_y4)<|.cons (ov Y) (.b Y) .nil)<|R2 XZ Y<|Za<|K3 1 3 53 Y<|If h Y (fun h=>?_) fun h=>?_
      ·
       exact K2 1 3 Y<|Zu<|Rm Y<|Rq Y (Xl (ys := [_, _]) ZgM ZgF Zh0 (.cons (cvs (ov Y)<|Zk Y)<|.cons (cvs (ov Y)<|Zk Y) .nil) Y)<|R_q (.sl 114<|List.map R114 ([(api_Flaw.mk 61 3)] : List api_Flaw)) Y (XH ZfH (.cons (cva<|ov Y) Y (pwD Y) .nil) Y Y)<|bE h fun l4 h_l4 h=>Rx Y (QA (ov Y) (QR (ov Y) tZ_114) ZfH Y Y Y (fun _=>Zb Y) Y h_l4)<|Ra Y<|Za<|⟨_, h, ES [some 0]⟩
      ·
       exact Zl<|⟨_, h, ES [some 0]⟩
     ·
      refine Zi<|Zi<|Ql (cw := md0) (by kernel_rfl)<|bE h fun x6 h_x6 h=>Dq 0 Y (Qr (ov Y) (ov Y) JH h_x6)<|Dq 1 Y (Zd (ov Y) ZaW<|Qd<|Q1 (o := 0) (o' := ((Int.toNat 62) * 1)) (Zr arL)<|Q4 h_x6)<|bE h fun y5 h_y5 h=>Dq 2 Y (Zp (X2 h_y5)<|.cons (ov Y) (.b Y) .nil)<|bE h fun q2 h_q2 h=>Dq 3 Y (Zc0 (ov Y) (ov Y) h_q2)<|bE h fun x7 h_x7 h=>Dq 4 Y (Qr (ov Y) (ov Y) JH h_x7)<|Dq 5 Y (Zd (ov Y) ZaW<|Qd<|Q1 (o := 0) (o' := ((Int.toNat 63) * 1)) (Zr arL)<|Q4 h_x7)<|bE h fun y6 h_y6 h=>Dq 6 Y (Zp (X2 h_y6)<|.cons (ov Y) (.b Y) .nil)<|D2 7 Zep Y<|bE h fun y7 h_y7 h=>Dq 8 Y (Zp (Zfy h_y7)<|.cons (ov Y) (.b Y) .nil)<|D2 9 XZ Y<|Dd<|K2 3 67 Y<|If h Y (fun h=>?_) fun h=>?_
      ·
       refine K1 3 Y<|Zu<|Rm Y<|Rq Y (Xl (ys := [_, _]) ZgM ZgF Zh0 (.cons (cvs (ov Y)<|Zk Y)<|.cons (cvs (ov Y)<|Zk Y) .nil) Y)<|R_q (.sl 114<|List.map R114 ([(api_Flaw.mk 62 4)] : List api_Flaw)) Y (XH ZfH (.cons (cva<|ov Y) Y (pwD Y) .nil) Y Y)<|bE h fun l5 h_l5 h=>Rx Y (QA (ov Y) (QR (ov Y) tZ_114) ZfH Y Y Y (fun _=>Zb Y) Y h_l5)<|Ra Y<|Za<|K1 3 Y<|Tr<|Rm Y<|Ra Y<|Za<|?_
       obtain rfl := rt h
       exact Zq (ZJ Y (.one<|.tmp Y<|View.ownM Y Y D114))
      ·
       refine Zl<|K1 3 Y<|Tr<|Rm Y<|Ra Y<|Za<|?_
       obtain rfl := rt h
       exact Zq (ZJ Y (.one<|.tmp Y<|View.ownM Y Y D114))
theorem Zdn {f : Vector Int 64} {r : Int × Bool} (h : Jr f = some r) :
 CSpec Tryd.prog gl0 35 [.agg (List.map C42 f.toList)] (.tuple [.int .i64 r.1, .bool r.2]) := by
 unfold Jr at h
 replace h := Z4 h
 refine So Tryd.func35 Y fun w0 A=>Tr<|Rq Y (ZcJ (cva<|ov Y) arL tZ_44<|arD fun _ => Y)<|Ra Y<|Ra Y<|Za<|Zi<|K1 1 Y<|Tr<|bE h fun x h_x h=>Rq Y (Qr (ov Y) (ov Y) JH h_x)<|Rq Y (Zd (ov Y) ZaW<|Qd<|Q1 (o := 0) (o' := ((Int.toNat 1) * 1)) (Zr arL)<|Q4 h_x)<|bE h fun y h_y h=>Rq Y (Zp (Zc8 h_y)<|.cons (ov Y) (.b Y) .nil)<|R1 XU Y<|Rm Y<|bE h fun x2 h_x2 h=>Rq Y (.guarded ((!y) == false) Y Y Y Y fun h => Qr (ov Y) (ov Y) JH<|gdT h_x2 h)<|Rq Y (.guarded ((!y) == false) Y Y Y Y fun h => Zd (ow Y h) ZaW<|Qd<|Q1 (o := 0) (o' := ((Int.toNat 2) * 1)) (Zr arL)<|Q4<|gdT h_x2 h)<|bE h fun y2 h_y2 h=>Rq Y (.guarded ((!y) == false) Y Y Y Y fun h => Zp (Zc8<|gdT h_y2 h)<|.cons (ow Y h) (.b Y) .nil)<|Rq Y (.guarded ((!y) == false) Y Y Y Y fun h => XU<|ow Y h)<|Rq Y (Zdv (ov Y) fun hp=>ow Y<|gF hp)<|Za<|K2 1 13 Y<|If h Y (fun h=>?_) fun h=>?_
 ·
  refine K0<|Tr<|Ra Y<|Ra Y<|Za<|?_
  obtain rfl := rt h
  exact Zq (ZJ Y (.two (rb Y)<|rb Y))
 ·
  refine Zl<|K1 1 Y<|Tr<|bE h fun y3 h_y3 h=>Rq Y (Zp (Zcy h_y3)<|.cons (ov Y) (.b Y) .nil)<|Ra Y<|Ra Y<|Za<|?_
  obtain rfl := rt h
  exact Zq (ZJ Y (.two (rb Y)<|rb Y))
theorem JC {b : ring_bank} {k : Int} {r : Bool} (h : QC b k = some r) :
 CSpec Tryd.prog gl0 59 [.rp [.sl 60 (List.map R60 b.memories), .sl 83 (List.map R83 b.spots)] 0, .int .i64 k] (.bool r) := by
 unfold QC at h
 replace h := Z4 h
 refine So Tryd.func59 Y fun w0 A=>Tr<|Ra Y<|Za<|Zi<|Ql (cw := md0) (by kernel_rfl)<|D1 0 Zc Y<|D1 1 ZA Y<|Dq 2 Y (ZQ (ov Y) Zev)<|Dq 3 Y (Zd (ov Y) Zik Y)<|D1 4 Zc Y<|bE h fun x h_x h=>Dq 5 Y (Z3 (ov Y) (ov Y) Zif h_x)<|Dq 6 Y (ZQ (ov Y) ZfP)<|Dq 7 Y (Zd (ov Y) tS3 Y)<|D2 8 ZV Y<|D1 9 Zc Y<|Dq 10 Y (.guarded ((decide (x.sector < 0)) == false) Y Y Y Y fun h => Zc<|ov Y)<|Dq 11 Y (.guarded ((decide (x.sector < 0)) == false) Y Y Y Y fun h => ZA<|ow Y h)<|Dq 12 Y (.guarded ((decide (x.sector < 0)) == false) Y Y Y Y fun h => ZQ (ow Y h) Zev)<|Dq 13 Y (.guarded ((decide (x.sector < 0)) == false) Y Y Y Y fun h => Zd (ow Y h) Zik Y)<|Dq 14 Y (.guarded ((decide (x.sector < 0)) == false) Y Y Y Y fun h => Zc<|ov Y)<|bE h fun x2 h_x2 h=>Dq 15 Y (.guarded ((decide (x.sector < 0)) == false) Y Y Y Y fun h => Z3 (ow Y h) (ow Y h) Zif<|gdT h_x2 h)<|Dq 16 Y (.guarded ((decide (x.sector < 0)) == false) Y Y Y Y fun h => ZQ (ow Y h) Zgz)<|Dq 17 Y (.guarded ((decide (x.sector < 0)) == false) Y Y Y Y fun h => Zd (ow Y h) tS3 Y)<|Dq 18 Y (.guarded ((decide (x.sector < 0)) == false) Y Y Y Y fun h => Zc<|ov Y)<|Dq 19 Y (.guarded ((decide (x.sector < 0)) == false) Y Y Y Y fun h => ZA<|ow Y h)<|Dq 20 Y (.guarded ((decide (x.sector < 0)) == false) Y Y Y Y fun h => ZQ (ow Y h) Zda)<|Dq 21 Y (.guarded ((decide (x.sector < 0)) == false) Y Y Y Y fun h => Zd (ow Y h) Zhq Y)<|Dq 22 Y (.guarded ((decide (x.sector < 0)) == false) Y Y Y Y fun h => Zc<|ov Y)<|bE h fun x3 h_x3 h=>Dq 23 Y (.guarded ((decide (x.sector < 0)) == false) Y Y Y Y fun h => Z3 (ow Y h) (ow Y h) Zcm<|gdT h_x3 h)<|Dq 24 Y (.guarded ((decide (x.sector < 0)) == false) Y Y Y Y fun h => ZQ (ow Y h) Zgq)<|Dq 25 Y (.guarded ((decide (x.sector < 0)) == false) Y Y Y Y fun h => Zd (ow Y h) tS3 Y)<|Dq 26 Y (.guarded ((decide (x.sector < 0)) == false) Y Y Y Y fun h => ZbQ (ow Y h)<|ow Y h)<|Dq 27 Y (Zdv (ov Y) fun hp=>ow Y<|gF hp)<|D1 28 Z9 Y<|Dd<|?_
 obtain rfl := rt h
 exact Zq (ZJ Y (.one<|rb Y))
theorem ZaX {b : ring_bank} {k : Int} {r : Int} (h : QZ b k = some r) :
 CSpec Tryd.prog gl0 60 [.rp [.sl 60 (List.map R60 b.memories), .sl 83 (List.map R83 b.spots)] 0, .int .i64 k] (.int .i64 r) := by
 unfold QZ at h
 replace h := Z4 h
 refine So Tryd.func60 Y fun w0 A=>Tr<|Ra Y<|Za<|K2 0 1 Y<|Tr<|Rm Y<|R1 ZA Y<|Rq Y (ZQ (ov Y) Zda)<|Rq Y (Zd (ov Y) Zhq Y)<|Rm Y<|bE h fun x h_x h=>Rq Y (Z3 (ov Y) (ov Y) Zcm h_x)<|Rq Y (QW (ov Y) XT Y Y)<|Rx Y (ZW (row := [_, _, _, _, _]) 0 Y ZcK Y tZ_60)<|Rx Y (Zj (ov Y) (ov Y) (Zw XT Y) Y Y Y (Nat.le_of_ble_eq_true Y) (Zb Y) Y)<|Za<|K3 0 1 5 Y<|Tr<|Rq Y (Zg (ov Y) Y Y ZE)<|Rq Y (Zs (ov Y) Y Y Y Z2 Y)<|Rl tZ_29 ZU Y<|Ra Y<|Za<|J0 (fun j => (.inr j)) ⟨[], []⟩ h (fun h=>?_) fun h=>?_
 ·
  refine K4 0 1 5 6 Y<|Tr<|Rm Y<|Rm Y<|Za<|Zh<|?_
  obtain ⟨r1, hl1, ho1⟩ := QV h
  refine L1 (fun i=>⟨[(0, .rp [.sl 60 (List.map R60 b.memories), .sl 83 (List.map R83 b.spots)] 0), (1, .int .i64 k), (5, .ptr 0 1 0 0), (6, .int .i64 (x.Sectors.length : Int)), (19, .int .i64 (x.Sectors.length : Int)), (20, .int .i64 i)], [some ⟨60, [[.int .i64 x.Slots, .int .i64 x.Limit, .sl 29 (List.map R29 x.Sectors), .sl 3 (List.map R3 x.Wear), .sl 4 (List.map R4 x.Bad)]]⟩]⟩) hl1 (ES [some 0]) fun n1 i h=>?_
  unfold X8 at h
  refine Tr<|R2 ZV Y<|Za<|Zi<|If h Y (fun h=>?_) fun h=>?_
  ·
   refine Zl<|Zi<|Zh<|K6 0 1 5 6 19 20 Y<|Tr<|Rm Y<|Ra Y<|Za<|K7 0 1 5 6 7 19 20 Y<|Tr<|Rm Y<|R1 ZA Y<|Rq Y (ZQ (ov Y) Zev)<|Rq Y (Zd (ov Y) Zik Y)<|Rm Y<|bE h fun x2 h_x2 h=>Rq Y (Z3 (ov Y) (ov Y) Zif h_x2)<|Rq Y (ZQ (ov Y) ZfP)<|Rq Y (Zd (ov Y) tS3 Y)<|R2 ZO Y<|Rm Y<|R2 ZO Y<|Rm Y<|bE h fun q h_q h=>Rq Y (Jf (ov Y) (ov Y) h_q)<|Ra Y<|Za<|Zi<|K7 0 1 5 6 8 19 20 Y<|Ql (cw := md0) (by kernel_rfl)<|Dq 0 Y (Zg (ov Y) Y Y ZfA)<|Dq 1 Y (Zs (ov Y) Y Y Y Zij Y)<|D1 2 Zc Y<|bE h fun x3 h_x3 h=>Dq 3 Y (Z3 (ov Y) (ov Y) ZgZ h_x3)<|Dq 4 Y (Zd (ov Y) tS4 Y)<|D1 5 XU Y<|D1 6 Zc Y<|Dq 7 Y (.guarded ((!x3) == true) Y Y Y Y fun h => Zg (ov Y) Y Y ZeH)<|Dq 8 Y (.guarded ((!x3) == true) Y Y Y Y fun h => Zs (ow Y h) Y Y Y Zip Y)<|Dq 9 Y (.guarded ((!x3) == true) Y Y Y Y fun h => Zc<|ov Y)<|bE h fun x4 h_x4 h=>Dq 10 Y (.guarded ((!x3) == true) Y Y Y Y fun h => Z3 (ow Y h) (ow Y h) QS<|gdT h_x4 h)<|Dq 11 Y (.guarded ((!x3) == true) Y Y Y Y fun h => Zd (ow Y h) tS3 Y)<|Dq 12 Y (.guarded ((!x3) == true) Y Y Y Y fun h => Zg (ov Y) Y Y Ziw)<|Dq 13 Y (.guarded ((!x3) == true) Y Y Y Y fun h => Zs (ow Y h) Y Y Y tS3 Y)<|Dq 14 Y (.guarded ((!x3) == true) Y Y Y Y fun h => ZV (ow Y h)<|ow Y h)<|Dq 15 Y (Zch (ov Y) fun hp=>ow Y<|gT hp)<|Dd<|K8 0 1 5 6 8 19 20 51 Y<|If h Y (fun h=>?_) fun h=>?_
   ·
    refine K1 8 Y<|Tr<|Rm Y<|Ra Y<|Za<|?_
    replace h := lx h ▸ ho1
    obtain rfl := rt h
    exact Zq (ZJ Y (.one<|rb Y))
   ·
    exact Zl<|K6 0 1 5 6 19 20 Y<|Zu<|R2 ZO Y<|Rm Y<|Za<|⟨_, h, ES [some 0]⟩
  ·
   refine ZG<|?_
   replace h := lx h ▸ ho1
   exact ⟨(), h, ES []⟩
 ·
  replace h := elr h
  replace h := t0i h
  refine Tr<|Ra Y<|Za<|?_
  obtain rfl := rt h
  exact Zq (ZJ Y (.one<|rb Y))
theorem Za1 {b : ring_bank} {k : Int} {sector : Int} {r : Int} (h : QB b k sector = some r) :
 CSpec Tryd.prog gl0 61 [.rp [.sl 60 (List.map R60 b.memories), .sl 83 (List.map R83 b.spots)] 0, .int .i64 k, .int .i64 sector] (.int .i64 r) := by
 unfold QB at h
 replace h := Z4 h
 refine So Tryd.func61 Y fun w0 A=>Tr<|Ra Y<|Za<|K3 0 1 2 Y<|Tr<|Ra Y<|Za<|I1 (fun most=>⟨[(7, .int .i64 most)], []⟩) h (fun h=>?_) fun most h=>?_
 ·
  refine Tr<|Rm Y<|R1 ZA Y<|Rq Y (ZQ (ov Y) Zda)<|Rq Y (Zd (ov Y) Zhq Y)<|Rm Y<|bE h fun x h_x h=>Rq Y (Z3 (ov Y) (ov Y) Zcm h_x)<|Rq Y (ZQ (ov Y) ZE)<|Rq Y (Zd (ov Y) Z2 Y)<|Rl tZ_29 ZU Y<|Rm Y<|Za<|Zh<|?_
  obtain ⟨r1, hl1, ho1⟩ := QV h
  refine L2 (fun most2 i=>⟨[(2, .int .i64 sector), (7, .int .i64 most2), (20, .sl 29 (List.map R29 x.Sectors)), (21, .int .i64 (x.Sectors.length : Int)), (22, .int .i64 i)], []⟩) hl1 (ES []) fun n1 most2 i h=>?_
  unfold Q7 at h
  refine Tr<|R2 ZV Y<|Za<|Zi<|If h Y (fun h=>?_) fun h=>?_
  ·
   refine Zl<|Zi<|Zh<|K5 2 7 20 21 22 Y<|Tr<|Rm Y<|bE h fun x2 h_x2 h=>Rq Y (Z3 (ov Y) (ov Y) ZU h_x2)<|Rq Y (Zd (ov Y) Zgd Y)<|Ra Y<|Ra Y<|Za<|K7 2 7 8 9 20 21 22 Y<|Tr<|Rm Y<|bE h fun y h_y h=>Rq Y (Zp (Zaw h_y)<|.cons (ov Y) (.b Y) .nil)<|Rm Y<|Rq Y (Zn (ov Y) Y)<|Rq Y (Zn (ov Y) Y)<|Rq Y (Zn (ov Y) Y)<|Ra Y<|Ra Y<|Ra Y<|Za<|K8 2 7 8 10 12 20 21 22 Y<|Tr<|Rm Y<|Rm Y<|Rq Y (.guarded (y.2.2 == true) Y Y Y Y fun h => Zc<|ov Y)<|Rq Y (.guarded (y.2.2 == true) Y Y Y Y fun h => Zc<|ov Y)<|Rq Y (.guarded (y.2.2 == true) Y Y Y Y fun h => XZ (ow Y h)<|ow Y h)<|Rq Y (Zch (ov Y) fun hp=>ow Y<|gT hp)<|Za<|K7 2 7 10 20 21 22 38 Y<|If h Y (fun h=>?_) fun h=>?_
   ·
    exact K6 2 7 10 20 21 22 Y<|Zu<|Rm Y<|Rm Y<|Rq Y (Zji (ov Y) (ov Y) Y)<|Ra Y<|Za<|K5 2 7 20 21 22 Y<|Zu<|R2 ZO Y<|Rm Y<|Za<|⟨_, h, ES []⟩
   ·
    exact Zl<|K5 2 7 20 21 22 Y<|Zu<|R2 ZO Y<|Rm Y<|Za<|⟨_, h, ES []⟩
  ·
   refine ZG<|?_
   replace h := lx h ▸ ho1
   exact ⟨_, h, ES []⟩
 ·
  refine Tr<|Rm Y<|R2 ZO Y<|Ra Y<|Za<|?_
  obtain rfl := rt h
  exact Zq (ZJ Y (.one<|rb Y))
theorem ZeD {b : ring_bank} {l : List Int} {r : Int} (h : X0 b l = some r) :
 CSpec Tryd.prog gl0 36 [.rp [.sl 60 (List.map R60 b.memories), .sl 83 (List.map R83 b.spots)] 0, .sl 3 (List.map R3 l)] (.int .i64 r) := by
 unfold X0 at h
 replace h := Z4 h
 refine So Tryd.func36 Y fun w0 A=>Tr<|Ra Y<|Za<|J0 (fun j => (.inr j)) ⟨[(0, .rp [.sl 60 (List.map R60 b.memories), .sl 83 (List.map R83 b.spots)] 0), (1, .sl 3 (List.map R3 l))], []⟩ h (fun h=>?_) fun h=>?_
 ·
  refine K2 0 1 Y<|Tr<|Rm Y<|Rl tZ_3 QS Y<|Rm Y<|Za<|Zh<|?_
  obtain ⟨r1, hl1, ho1⟩ := QV h
  refine L1 (fun i=>⟨[(0, .rp [.sl 60 (List.map R60 b.memories), .sl 83 (List.map R83 b.spots)] 0), (1, .sl 3 (List.map R3 l)), (9, .sl 3 (List.map R3 l)), (10, .int .i64 (l.length : Int)), (11, .int .i64 i)], []⟩) hl1 (ES []) fun n1 i h=>?_
  unfold XJ at h
  refine Tr<|R2 ZV Y<|Za<|Zi<|If h Y (fun h=>?_) fun h=>?_
  ·
   refine Zl<|Zi<|Zh<|K5 0 1 9 10 11 Y<|Tr<|bE h fun x h_x h=>Rq Y (Z3 (ov Y) (ov Y) QS h_x)<|Rq Y (Zd (ov Y) tS3 Y)<|Ra Y<|Za<|K6 0 1 6 9 10 11 Y<|Tr<|Rm Y<|Rm Y<|bE h fun y h_y h=>Rq Y (Zp (JC h_y)<|.cons (ov Y) (.b Y)<|.cons (ov Y) (.b Y) .nil)<|Rm Y<|Rq Y (.guarded (y == true) Y Y Y Y fun h => Zc<|ov Y)<|Rq Y (.guarded (y == true) Y Y Y Y fun h => Zc<|ov Y)<|bE h fun y2 h_y2 h=>Rq Y (.guarded (y == true) Y Y Y Y fun h => Zp (ZaX<|gdT h_y2 h)<|.cons (ow Y h) (.b Y)<|.cons (ow Y h) (.b Y) .nil)<|Rq Y (.guarded (y == true) Y Y Y Y fun h => ZV (ow Y h)<|ov Y)<|Rq Y (Zch (ov Y) fun hp=>ow Y<|gT hp)<|Za<|K6 0 1 9 10 11 23 Y<|If h Y (fun h=>?_) fun h=>?_
   ·
    refine K0<|Tr<|Ra Y<|Za<|?_
    replace h := lx h ▸ ho1
    obtain rfl := rt h
    exact Zq (ZJ Y (.one<|rb Y))
   ·
    exact Zl<|K5 0 1 9 10 11 Y<|Zu<|R2 ZO Y<|Rm Y<|Za<|⟨_, h, ES []⟩
  ·
   refine ZG<|?_
   replace h := lx h ▸ ho1
   exact ⟨(), h, ES []⟩
 ·
  replace h := elr h
  replace h := t0i h
  refine J0 (fun j => (.inr j)) ⟨[], []⟩ h (fun h=>?_) fun h=>?_
  ·
   refine Tr<|Rm Y<|Rl tZ_3 QS Y<|Rm Y<|Za<|Zh<|?_
   obtain ⟨r2, hl2, ho2⟩ := QV h
   refine L1 (fun i2=>⟨[(0, .rp [.sl 60 (List.map R60 b.memories), .sl 83 (List.map R83 b.spots)] 0), (25, .sl 3 (List.map R3 l)), (26, .int .i64 (l.length : Int)), (27, .int .i64 i2)], []⟩) hl2 (ES []) fun n2 i2 h=>?_
   unfold XM at h
   refine Tr<|R2 ZV Y<|Za<|Zi<|If h Y (fun h=>?_) fun h=>?_
   ·
    refine Zl<|Zi<|Zh<|K4 0 25 26 27 Y<|Tr<|bE h fun x2 h_x2 h=>Rq Y (Z3 (ov Y) (ov Y) QS h_x2)<|Rq Y (Zd (ov Y) tS3 Y)<|Ra Y<|Za<|K5 0 8 25 26 27 Y<|Tr<|Rm Y<|Rm Y<|bE h fun y3 h_y3 h=>Rq Y (Zp (JC h_y3)<|.cons (ov Y) (.b Y)<|.cons (ov Y) (.b Y) .nil)<|Rm Y<|Rq Y (.guarded (y3 == true) Y Y Y Y fun h => Zc<|ov Y)<|Rq Y (.guarded (y3 == true) Y Y Y Y fun h => Zc<|ov Y)<|Rq Y (.guarded (y3 == true) Y Y Y Y fun h => Zc<|ov Y)<|Rq Y (.guarded (y3 == true) Y Y Y Y fun h => Zc<|ov Y)<|bE h fun y4 h_y4 h=>Rq Y (.guarded (y3 == true) Y Y Y Y fun h => Zp (ZaX<|gdT h_y4 h)<|.cons (ow Y h) (.b Y)<|.cons (ow Y h) (.b Y) .nil)<|bE h fun y5 h_y5 h=>Rq Y (.guarded (y3 == true) Y Y Y Y fun h => Zp (Za1<|gdT h_y5 h)<|.cons (ow Y h) (.b Y)<|.cons (ow Y h) (.b Y)<|.cons (ow Y h) (.b Y) .nil)<|Rq Y (.guarded (y3 == true) Y Y Y Y fun h => Zb8 (ow Y h)<|ov Y)<|Rq Y (Zch (ov Y) fun hp=>ow Y<|gT hp)<|Za<|K5 0 25 26 27 42 Y<|If h Y (fun h=>?_) fun h=>?_
    ·
     refine K0<|Tr<|Ra Y<|Za<|?_
     replace h := lx h ▸ ho2
     obtain rfl := rt h
     exact Zq (ZJ Y (.one<|rb Y))
    ·
     exact Zl<|K4 0 25 26 27 Y<|Zu<|R2 ZO Y<|Rm Y<|Za<|⟨_, h, ES []⟩
   ·
    refine ZG<|?_
    replace h := lx h ▸ ho2
    exact ⟨(), h, ES []⟩
  ·
   replace h := elr h
   replace h := t0i h
   refine Tr<|Ra Y<|Za<|?_
   obtain rfl := rt h
   exact Zq (ZJ Y (.one<|rb Y))
theorem Zg4 {f : Vector Int 64} {r : Bool} (h : Zcb f = some r) :
 CSpec Tryd.prog gl0 62 [.rp (List.map C42 f.toList) 0] (.bool r) := by
 unfold Zcb at h
 replace h := Z4 h
 refine So Tryd.func62 Y fun w0 A=>Tr<|Ra Y<|Za<|J0 (fun j => (.inr j)) ⟨[], []⟩ h (fun h=>?_) fun h=>?_
 ·
  refine K1 0 Y<|Tr<|Rm Y<|Za<|Zh<|?_
  obtain ⟨r1, hl1, ho1⟩ := QV h
  refine L1 (fun i=>⟨[(0, .rp (List.map C42 f.toList) 0), (4, .int .i64 i)], []⟩) hl1 (ES []) fun n1 i h=>?_
  unfold Zbp at h
  refine Tr<|R2 ZV Y<|Za<|Zi<|If h Y (fun h=>?_) fun h=>?_
  ·
   refine Zl<|Zi<|Zh<|K2 0 4 Y<|Tr<|Rm Y<|Ra Y<|Za<|K3 0 3 4 Y<|Tr<|Rm Y<|Rm Y<|R1 ZA Y<|bE h fun x h_x h=>Rq Y (Qr (ov Y) (ov Y) JH h_x)<|Rq Y (Zd (ov Y) ZaW<|Qd<|Q1 (o := 0) (o' := (i.toNat * 1)) (Zr arL)<|Q4 h_x)<|R2 Zb8 Y<|Za<|K3 0 4 12 Y<|If h Y (fun h=>?_) fun h=>?_
   ·
    refine K0<|Tr<|Ra Y<|Za<|?_
    replace h := lx h ▸ ho1
    obtain rfl := rt h
    exact Zq (ZJ Y (.one<|rb Y))
   ·
    exact Zl<|K2 0 4 Y<|Zu<|R2 ZO Y<|Rm Y<|Za<|⟨_, h, ES []⟩
  ·
   refine ZG<|?_
   replace h := lx h ▸ ho1
   exact ⟨(), h, ES []⟩
 ·
  replace h := elr h
  replace h := t0i h
  refine Tr<|Ra Y<|Za<|?_
  obtain rfl := rt h
  exact Zq (ZJ Y (.one<|rb Y))
theorem ZdX {p : Vector Int 96} {i : Int} {w : Int} {r : (Vector Int 96)} (h : XY p i w = some r) :
 GSpec Tryd.prog gl0 79 [.ptr 0 1 0 0, .int .i64 i, .int .u16 w] [some ⟨109, [(List.map C5 p.toList)]⟩] (.tuple []) [some ⟨109, [(List.map C5 r.toList)]⟩] := by
 unfold XY at h
 replace h := Z4 h
 refine Qy (by kernel_rfl) Tryd.func79 Y Y<|?_
 intro w0 A W φ0
 refine Tr<|Rm Y<|bE h fun q h_q h=>Rq Y (ZeF (ov Y) (ov Y) h_q)<|R2 Zfq Y<|Ra Y<|Za<|Zi<|K4 0 1 2 6 Y<|Tr<|Rm Y<|bE h fun q2 h_q2 h=>Rq Y (Jf (ov Y) (ov Y) h_q2)<|R2 ZbQ Y<|Za<|K4 0 2 6 12 Y<|If h Y (fun h=>?_) fun h=>?_
 ·
  refine Zi<|K3 0 2 6 Y<|Ql (cw := ⟨false, false, [], [20, 24], []⟩) (by kernel_rfl)<|D1 0 Zc Y<|D1 1 Zc Y<|D1 5 Zc Y<|bE h fun q3 h_q3 h=>Dq 6 Y (ZbH (ov Y) (ov Y) h_q3)<|Dq 7 Y (Qi (ov Y) Zcq tI5 Y)<|D1 12 Zc Y<|D1 13 Zc Y<|D2 14 ZO Y<|Dq 15 Y (Zt (ov Y) Y Y)<|bE h fun x h_x h=>Dq 16 Y (X7 (ov Y) (ov Y) Zcv Y Y h_x)<|Dq 17 Y (Zs (ov Y) Y Y Y tS5<|Qd<|Q1 (o := 0) (o' := ((i64 ((i64 (q * 3)) + 1)).toNat * 1)) (Zr arL)<|Q4 h_x)<|Dq 20 Y (Zt (ov Y) Y Y)<|bE h fun x2 h_x2 h=>Dq 21 Y (X7 (ov Y) (ov Y) Zcv Y Y h_x2)<|ZY 2 _ Y (by kernel_rfl) Y Y (fun hp'=>Zc<|ov Y)<|ZY 3 _ Y (by kernel_rfl) Y Y (fun hp'=>Zc<|ov Y)<|ZY 4 _ Y (by kernel_rfl) Y Y (fun hp'=>ZiI (ov Y) (ov Y) Y)<|ZY 8 _ Y (by kernel_rfl) Y Y (fun hp'=>Zc<|ov Y)<|ZY 9 _ Y (by kernel_rfl) Y Y (fun hp'=>J4 (ov Y)<|ov Y)<|bE h fun q4 h_q4 h=>ZY 10 _ Y (by kernel_rfl) Y Y (fun hp'=>Zc0 (ov Y) (ov Y) h_q4)<|ZY 11 _ Y (by kernel_rfl) Y Y (fun hp'=>Qi (ov Y) Zcq tI5 Y)<|ZY 18 _ Y (by kernel_rfl) Y Y (fun hp'=>J4 (ov Y)<|ov Y)<|ZY 19 _ Y (by kernel_rfl) Y Y (fun hp'=>Zep (ov Y)<|ov Y)<|Dw 23 22 Y (Zt (ov Y) Y Y) (Zj (ov Y) (ov Y) (Ze tS5) Y Y Y (arB h_x2) (Zb Y)<|arS h_x2) ?_ ?_
  ·
   refine Do 22 Y (Zj (ov Y) (ov Y) (Ze tS5) Y Y Y (arB h_x2) (Zb Y)<|arS h_x2)<|bE h fun x3 h_x3 h=>Dq 24 Y (X7 (ov Y) (ov Y) Zcv Y Y h_x3)<|Do 25 Y (Zj (ov Y) (ov Y) (Ze tS5) Y Y Y (arB h_x3) (Zb Y)<|arS h_x3)<|Dd<|?_
   obtain rfl := rt h
   exact Zq<|Zao [some 0] Y .nil (.cons Y (ro1 (by exact Eq.trans (b := 96) arL tZ_109.symm)<|rld<|arD fun _ => Y) .nil) Y Y<|XG rln
  ·
   refine Dq 23 Y (Zt (ov Y) Y Y)<|bE h fun x3 h_x3 h=>Dq 24 Y (X7 (ov Y) (ov Y) Zcv Y Y h_x3)<|Do 25 Y (Zj (ov Y) (ov Y) (Ze tS5) Y Y Y (arB h_x3) (Zb Y)<|arS h_x3)<|Dd<|?_
   obtain rfl := rt h
   exact Zq<|Zao [some 0] Y .nil (.cons Y (ro1 (by exact Eq.trans (b := 96) arL tZ_109.symm)<|rld<|arD fun _ => Y) .nil) Y Y<|XG rln
 ·
  refine Zl<|K3 0 2 6 Y<|Ql (cw := ⟨false, false, [], [52, 55], []⟩) (by kernel_rfl)<|D1 0 Zc Y<|D1 1 Zc Y<|D2 2 ZO Y<|D1 6 Zc Y<|D1 7 Zc Y<|D2 8 ZO Y<|Dq 9 Y (Zt (ov Y) Y Y)<|bE h fun x4 h_x4 h=>Dq 10 Y (X7 (ov Y) (ov Y) Zcv Y Y h_x4)<|Dq 11 Y (Zs (ov Y) Y Y Y tS5<|Qd<|Q1 (o := 0) (o' := ((i64 ((i64 (q * 3)) + 1)).toNat * 1)) (Zr arL)<|Q4 h_x4)<|D2 12 J4 Y<|D1 13 Zc Y<|bE h fun q5 h_q5 h=>Dq 14 Y (ZbH (ov Y) (ov Y) h_q5)<|Dq 15 Y (Qi (ov Y) Zcq tI5 Y)<|D2 16 Zep Y<|Dq 19 Y (Zt (ov Y) Y Y)<|bE h fun x5 h_x5 h=>Dq 20 Y (X7 (ov Y) (ov Y) Zcv Y Y h_x5)<|ZY 3 _ Y (by kernel_rfl) Y Y (fun hp'=>Zc<|ov Y)<|ZY 4 _ Y (by kernel_rfl) Y Y (fun hp'=>Zc<|ov Y)<|ZY 5 _ Y (by kernel_rfl) Y Y (fun hp'=>ZiI (ov Y) (ov Y) Y)<|ZY 17 _ Y (by kernel_rfl) Y Y (fun hp'=>Zc<|ov Y)<|ZY 18 _ Y (by kernel_rfl) Y Y (fun hp'=>Qi (ov Y) Zcq tI5 Y)<|Dw 22 21 Y (Zt (ov Y) Y Y) (Zj (ov Y) (ov Y) (Ze tS5) Y Y Y (arB h_x5) (Zb Y)<|arS h_x5) ?_ ?_
  ·
   refine Do 21 Y (Zj (ov Y) (ov Y) (Ze tS5) Y Y Y (arB h_x5) (Zb Y)<|arS h_x5)<|bE h fun x6 h_x6 h=>Dq 23 Y (X7 (ov Y) (ov Y) Zcv Y Y h_x6)<|Do 24 Y (Zj (ov Y) (ov Y) (Ze tS5) Y Y Y (arB h_x6) (Zb Y)<|arS h_x6)<|Dd<|?_
   obtain rfl := rt h
   exact Zhg [some 0] Y .nil (.cons Y (ro1 (by exact Eq.trans (b := 96) arL tZ_109.symm)<|rld<|arD fun _ => Y) .nil) Y Y<|XG rln
  ·
   refine Dq 22 Y (Zt (ov Y) Y Y)<|bE h fun x6 h_x6 h=>Dq 23 Y (X7 (ov Y) (ov Y) Zcv Y Y h_x6)<|Do 24 Y (Zj (ov Y) (ov Y) (Ze tS5) Y Y Y (arB h_x6) (Zb Y)<|arS h_x6)<|Dd<|?_
   obtain rfl := rt h
   exact Zhg [some 0] Y .nil (.cons Y (ro1 (by exact Eq.trans (b := 96) arL tZ_109.symm)<|rld<|arD fun _ => Y) .nil) Y Y<|XG rln
end Go.Proofs.YtnlmjeleocelgaaDoor
