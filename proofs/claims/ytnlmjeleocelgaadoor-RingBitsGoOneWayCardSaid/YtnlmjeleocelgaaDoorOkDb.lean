/- A text of the proof: a verified executor of the program form, or the contracts of the functions that the law reaches. -/
import Derived.Test.YtnlmjeleocelgaaDoorOkDa
set_option linter.all false
namespace Go.Proofs.YtnlmjeleocelgaaDoor
open Go Go.Vx
set_option maxRecDepth 10000
set_option maxHeartbeats 2000000
set_option linter.unusedVariables false
theorem ZcP {l : List api_Memory} {r : Int} (h : X1 l = some r) :
 CSpec Tryd.prog gl0 25 [.sl 60 (List.map R60 l)] (.int .i64 r) := by
 unfold X1 at h
 replace h := Qa h
 refine So Tryd.func25 Y fun w0 A=>Tr<|Ra Y<|Za<|Zj<|K1 0 Y<|Tr<|Rm Y<|Rl tZ_60 Zcj Y<|bE h fun y h_y h=>Rq Y (Zq (ZZ h_y)<|.cons (ov Y) (.b Y)<|.cons (ov Y) (.b Y)<|.cons (ov Y) (.b Y) .nil)<|R1 Ji Y<|Za<|K2 0 9 Y<|If h Y (fun h=>?_) fun h=>?_
 ·
  refine K0<|Tr<|Ra Y<|Za<|?_
  obtain rfl := rt h
  exact Zp (ZK Y (.one<|rb Y))
 ·
  refine Zl<|J0 (fun j => (.inr j)) ⟨[], []⟩ h (fun h=>?_) fun h=>?_
  ·
   refine K1 0 Y<|Tr<|Rm Y<|Rl tZ_60 Zcj Y<|Rm Y<|Za<|Zi<|?_
   obtain ⟨r1, hl1, ho1⟩ := Q2 h
   refine L1 (fun i=>⟨[(10, .sl 60 (List.map R60 l)), (11, .int .i64 (l.length : Int)), (12, .int .i64 i)], []⟩) hl1 (ES []) fun n1 i h=>?_
   unfold Jx at h
   refine Tr<|R2 ZX Y<|Za<|Zj<|If h Y (fun h=>?_) fun h=>?_
   ·
    refine Zl<|Zj<|Zi<|K3 10 11 12 Y<|Tr<|bE h fun x h_x h=>Rq Y (Z5 (ov Y) (ov Y) Zcj h_x)<|Rq Y (QU (ov Y) XT Y Y)<|Rx Y (ZV (row := [_, _, _, _, _]) 0 Y ZcM Y tZ_60)<|Rx Y (Zh (ov Y) (ov Y) (Zw XT Y) Y Y Y (Nat.le_of_ble_eq_true Y) (Zb Y) Y)<|Za<|K4 4 10 11 12 Y<|Tr<|Rq Y (Qj (ov Y) Y Y Y XT Y Y)<|bE h fun y2 h_y2 h=>Rq Y (Zq (Zd8 h_y2)<|.cons (ov Y) (.aggB Y) .nil)<|Ra Y<|Za<|K4 5 10 11 12 Y<|Tr<|Rm Y<|R2 XI Y<|Za<|K5 5 10 11 12 19 Y<|If h Y (fun h=>?_) fun h=>?_
    ·
     refine K1 5 Y<|Tr<|Rm Y<|Ra Y<|Za<|?_
     replace h := lx h ▸ ho1
     obtain rfl := rt h
     exact Zp (ZK Y (.one<|rb Y))
    ·
     exact Zl<|K3 10 11 12 Y<|Zu<|R2 ZN Y<|Rm Y<|Za<|⟨_, h, ES []⟩
   ·
    refine ZI<|?_
    replace h := lx h ▸ ho1
    exact ⟨(), h, ES []⟩
  ·
   replace h := elr h
   replace h := t0i h
   refine Tr<|Ra Y<|Za<|?_
   obtain rfl := rt h
   exact Zp (ZK Y (.one<|rb Y))
theorem Zf0 {xs r : List Int} (h : Zcb 1 xs = some r) :
 GSpec Tryd.prog gl0 10 [.sl 5 (List.map R5 xs)] [] (.own 0 r.length) [some ⟨5, List.map R5 r⟩] := by
 have h2 : apz 1 [] xs = some r := h
 refine Qt (by kernel_rfl) Tryd.func10 Y Y<|?_
 intro w0 A W φ0
 refine Tr<|Ra Y<|Za<|Zj<|Zj<|Zu<|Rm Y<|ZhB (ov Y) ZkV Y fun b hb=>?_
 refine Za<|ZhJ Y (fun hb2=>?_) fun hb2=>?_
 ·
  obtain rfl : xs = [] := by simpa using hb hb2
  obtain rfl : r = [] := by simpa [app, apz] using h2.symm
  exact Tr<|Ra Y<|Za<|Zp<|JJ [none] Y (.cons (.tmp Y) .nil) (.row 5 .nil) Y Y<|.row Y
 ·
  exact Zl<|Tr<|Rx Y (ZhC (r := 0) (xs := []) (f := R5) Y Qk .nil Y Y Y)<|Rm Y<|Rx Y (ZfH (ov Y) (QR (ov Y) tZ_5) Qk Y Y (fun _=>Zb Y) Y h2)<|Ra Y<|Za<|Zp<|JJ [some 0] Y (.cons (.tmp Y) .nil) (.cons Y (roM D5) .nil) Y Y<|.own _ Y
theorem ZfT {xs r : List Int} (h : Zcb 8 xs = some r) :
 GSpec Tryd.prog gl0 76 [.sl 3 (List.map R3 xs)] [] (.own 0 r.length) [some ⟨3, List.map R3 r⟩] := by
 have h2 : apz 8 [] xs = some r := h
 refine Qt (by kernel_rfl) Tryd.func76 Y Y<|?_
 intro w0 A W φ0
 refine Tr<|Ra Y<|Za<|Zj<|Zj<|Zu<|Rm Y<|ZhB (ov Y) Zk6 Y fun b hb=>?_
 refine Za<|ZhJ Y (fun hb2=>?_) fun hb2=>?_
 ·
  obtain rfl : xs = [] := by simpa using hb hb2
  obtain rfl : r = [] := by simpa [app, apz] using h2.symm
  exact Tr<|Ra Y<|Za<|Zp<|JJ [none] Y (.cons (.tmp Y) .nil) (.row 3 .nil) Y Y<|.row Y
 ·
  exact Zl<|Tr<|Rx Y (ZhC (r := 0) (xs := []) (f := R3) Y Xt .nil Y Y Y)<|Rm Y<|Rx Y (ZfH (ov Y) (QR (ov Y) tZ_3) Xt Y Y (fun _=>Zb Y) Y h2)<|Ra Y<|Za<|Zp<|JJ [some 0] Y (.cons (.tmp Y) .nil) (.cons Y (roM D3) .nil) Y Y<|.own _ Y
theorem ZfU {xs r : List Bool} (h : Zcb 1 xs = some r) :
 GSpec Tryd.prog gl0 77 [.sl 4 (List.map R4 xs)] [] (.own 0 r.length) [some ⟨4, List.map R4 r⟩] := by
 have h2 : apz 1 [] xs = some r := h
 refine Qt (by kernel_rfl) Tryd.func77 Y Y<|?_
 intro w0 A W φ0
 refine Tr<|Ra Y<|Za<|Zj<|Zj<|Zu<|Rm Y<|ZhB (ov Y) ZkK Y fun b hb=>?_
 refine Za<|ZhJ Y (fun hb2=>?_) fun hb2=>?_
 ·
  obtain rfl : xs = [] := by simpa using hb hb2
  obtain rfl : r = [] := by simpa [app, apz] using h2.symm
  exact Tr<|Ra Y<|Za<|Zp<|JJ [none] Y (.cons (.tmp Y) .nil) (.row 4 .nil) Y Y<|.row Y
 ·
  exact Zl<|Tr<|Rx Y (ZhC (r := 0) (xs := []) (f := R4) Y ZgZ .nil Y Y Y)<|Rm Y<|Rx Y (ZfH (ov Y) (QR (ov Y) tZ_4) ZgZ Y Y (fun _=>Zb Y) Y h2)<|Ra Y<|Za<|Zp<|JJ [some 0] Y (.cons (.tmp Y) .nil) (.cons Y (roM D4) .nil) Y Y<|.own _ Y
theorem Zbs {m : api_Memory} {r : api_Memory} (h : XS m = some r) :
 GSpec Tryd.prog gl0 53 [.agg [.int .i64 m.Slots, .int .i64 m.Limit, .sl 29 (List.map R29 m.Sectors), .sl 3 (List.map R3 m.Wear), .sl 4 (List.map R4 m.Bad)]] [] (.agg [.int .i64 r.Slots, .int .i64 r.Limit, .own 0 r.Sectors.length, .own 1 r.Wear.length, .own 2 r.Bad.length]) [some ⟨29, List.map O29 r.Sectors⟩, some ⟨3, List.map R3 r.Wear⟩, some ⟨4, List.map R4 r.Bad⟩] := by
 unfold XS at h
 replace h := Qa h
 refine Qt (by kernel_rfl) Tryd.func53 Y Y<|?_
 intro w0 A W φ0
 refine Tr<|Rx Y (ZiR 0 Y (ov Y) XT Y)<|Rx Y (ZV (row := [_, _, _, _, _]) 1 Y ZcM Y tZ_60)<|Za<|K2 1 2 Y<|Tr<|Ra Y<|Za<|I1 (fun sectors=>⟨[(1, .ptr 0 1 0 0), (2, .ptr 1 1 0 0), (3, .own 2 sectors.length)], [some ⟨60, [[.int .i64 m.Slots, .int .i64 m.Limit, .sl 29 (List.map R29 m.Sectors), .sl 3 (List.map R3 m.Wear), .sl 4 (List.map R4 m.Bad)]]⟩, some ⟨60, [[.int .i64 0, .int .i64 0, .nils, .nils, .nils]]⟩, some ⟨29, List.map O29 sectors⟩]⟩) h (fun h=>?_) fun sectors h=>?_
 ·
  refine Tr<|Rq Y (Zg (ov Y) Y Y ZE)<|Rq Y (Zs (ov Y) Y Y Y Z4 Y)<|Rl tZ_29 ZU Y<|Rm Y<|Za<|Zi<|?_
  obtain ⟨r1, hl1, ho1⟩ := Q2 h
  refine L2 (fun sectors2 i=>⟨[(1, .ptr 0 1 0 0), (2, .ptr 1 1 0 0), (3, .own 2 sectors2.length), (7, .sl 29 (List.map R29 m.Sectors)), (8, .int .i64 (m.Sectors.length : Int)), (9, .int .i64 i)], [some ⟨60, [[.int .i64 m.Slots, .int .i64 m.Limit, .sl 29 (List.map R29 m.Sectors), .sl 3 (List.map R3 m.Wear), .sl 4 (List.map R4 m.Bad)]]⟩, some ⟨60, [[.int .i64 0, .int .i64 0, .nils, .nils, .nils]]⟩, some ⟨29, List.map O29 sectors2⟩]⟩) hl1 (ES [some 0, some 1, none]) fun n1 sectors2 i h=>?_
  unfold XP at h
  refine Tr<|R2 ZX Y<|Za<|Zj<|If h Y (fun h=>?_) fun h=>?_
  ·
   exact Zl<|Zj<|Zi<|K6 1 2 3 7 8 9 Y<|Tr<|bE h fun x h_x h=>Rq Y (Z5 (ov Y) (ov Y) ZU h_x)<|Rq Y (Zd (ov Y) Zf5 Y)<|Ra Y<|Za<|K7 1 2 3 5 7 8 9 Y<|Zu<|Rm Y<|Rm Y<|bE h fun y h_y h=>Rx Y (ZC [] (Zf0 h_y) (.cons (ov Y) (.dat Y) .nil) .nil Y (.keep Y Y<|.keep Y Y<|.keep Y Y<|.lent 0 (.inr ⟨Nat.le_of_ble_eq_true Y, Y⟩) Y (roM D5) .nil) Y Y<|.own _<|.inr ⟨Nat.le_of_ble_eq_true Y, Y⟩)<|Rx Y (Qg (r := 4) Y ZU (.cons (cvs (ov Y)<|Zk Y) Y .nil) Y Y)<|bE h fun l h_l h=>Rx Y (ZD (f := O29) (ov Y) (ZO (o := ⟨29, [[.own 3 y.length]]⟩) (ov Y) Y Y tZ_29) ZU Y Y (Zb Y) Y h_l)<|Ra Y<|ZdK [some ⟨60, [[.int .i64 m.Slots, .int .i64 m.Limit, .sl 29 (List.map R29 m.Sectors), .sl 3 (List.map R3 m.Wear), .sl 4 (List.map R4 m.Bad)]]⟩, some ⟨60, [[.int .i64 0, .int .i64 0, .nils, .nils, .nils]]⟩, some ⟨29, List.set (List.map O29 l) sectors2.length [.own 3 y.length]⟩, some ⟨5, List.map R5 y⟩, some ⟨29, [[.own 3 y.length]]⟩] Y<|QA (Ent.absorbH (r := 2) (j := 0) (q := 3) Y (Zm h_l) Y Y (List.length_map ..) Y)<|QA (Ent.closeS (r := 2) Y (Zm h_l) Y)<|Za<|K6 1 2 3 7 8 9 Y<|QH [some ⟨60, [[.int .i64 m.Slots, .int .i64 m.Limit, .sl 29 (List.map R29 m.Sectors), .sl 3 (List.map R3 m.Wear), .sl 4 (List.map R4 m.Bad)]]⟩, some ⟨60, [[.int .i64 0, .int .i64 0, .nils, .nils, .nils]]⟩, some ⟨29, List.map O29 l⟩, none, some ⟨29, [[.own 3 y.length]]⟩] Y<|Zu<|R2 ZN Y<|Rm Y<|Za<|⟨_, h, ES [some 0, some 1, some 2] (hhp := .cons Y (ro1 (by exact tZ_60.symm)<|rld Y)<|.cons Y (ro1 (by exact tZ_60.symm)<|rld Y)<|.cons Y (roO Q8) .nil)⟩
  ·
   refine ZI<|?_
   replace h := lx h ▸ ho1
   exact ⟨_, h, ES [some 0, some 1, some 2] (hhp := .cons Y (ro1 (by exact tZ_60.symm)<|rld Y)<|.cons Y (ro1 (by exact tZ_60.symm)<|rld Y)<|.cons Y (roO Q8) .nil)⟩
 ·
  refine Zj<|Qn (cw := ⟨true, true, [some ⟨60, [[.int .i64 m.Slots, .int .i64 m.Limit, .sl 29 (List.map R29 m.Sectors), .sl 3 (List.map R3 m.Wear), .sl 4 (List.map R4 m.Bad)]]⟩, some ⟨60, [[.int .i64 0, .int .i64 0, .nils, .nils, .nils]]⟩, some ⟨29, List.map O29 sectors⟩], [], [0]⟩) (by kernel_rfl)<|Dq 1 Y (Zg (ov Y) Y Y ZeH)<|Dq 2 Y (Zs (ov Y) Y Y Y Zis Y)<|ZY 0 _ Y (by kernel_rfl) Y Y (fun hp'=>Zc<|ov Y)<|Xb 4 _ Y (by kernel_rfl) Y Y Y (EL.ext<|.wr Y Y Y<|.keep<|.keep .nil) (fun hp' hx=>exW (r := 0) hx Y fun _ ho hn => Zg (ov Y) ho hn Zfr)<|bE h fun y2 h_y2 h=>Zjx 5 3 Y Y (by kernel_rfl) Y Y Y Y (fun h=>by cases h) (fun _=>by exact EL.ext (.wr rfl rfl rfl <| .keep <| .keep <| .nil)) (Zs (ov Y) Y Y Y Zip Y) (ZC [] (ZfT h_y2) (.cons (ov Y) (.dat Y) .nil) .nil Y (.keep Y Y<|.keep Y Y<|.keep Y Y<|.lent 0 (.inr ⟨Nat.le_of_ble_eq_true Y, Y⟩) Y (roM D3) .nil) Y Y<|.own _<|.inr ⟨Nat.le_of_ble_eq_true Y, Y⟩) ?_ ?_
  ·
   refine Xb 7 _ Y (by kernel_rfl) Y Y Y (EL.ext<|.wr Y Y Y<|.keep<|.keep .nil) (fun hp' hx=>exW (r := 0) hx Y fun _ ho hn => Zg (ov Y) ho hn ZE)<|Jb 3 _ _ Y (by kernel_rfl) Y Y (fun h=>by cases h) (fun _=>by exact EL.ext (.wr rfl rfl rfl <| .keep <| .keep <| .nil)) (ZC [] (ZfT h_y2) (.cons (ov Y) (.dat Y) .nil) .nil Y (.keep Y Y<|.keep Y Y<|.keep Y Y<|.lent 0 (.inr ⟨Nat.le_of_ble_eq_true Y, Y⟩) Y (roM D3) .nil) Y Y<|.own _<|.inr ⟨Nat.le_of_ble_eq_true Y, Y⟩)<|bE h fun y3 h_y3 h=>Jb 6 _ _ Y (by kernel_rfl) Y Y (fun h=>by cases h) (fun _=>by exact EL.ext (.wr rfl rfl rfl <| .keep <| .keep <| .nil)) (ZC [] (ZfU h_y3) (.cons (ov Y) (.dat Y) .nil) .nil Y (.keep Y Y<|.keep Y Y<|.keep Y Y<|.keep Y Y<|.lent 0 (.inr ⟨Nat.le_of_ble_eq_true Y, Y⟩) Y (roM D4) .nil) Y Y<|.own _<|.inr ⟨Nat.le_of_ble_eq_true Y, Y⟩)<|Jb 8 _ _ Y (by kernel_rfl) Y Y (fun h=>by cases h) (fun _=>by exact EL.ext (.wr rfl rfl rfl <| .keep <| .keep <| .nil)) (Zh (ov Y) (ov Y) (Ze Z4) Y Y Y (Nat.le_of_ble_eq_true Y) (Zb Y) Y)<|Dq 9 Y (Zg (ov Y) Y Y ZeH)<|Jb 10 _ _ Y (by kernel_rfl) Y Y (fun h=>by cases h) (fun _=>by exact EL.ext (.wr rfl rfl rfl <| .keep <| .keep <| .nil)) (Zh (ov Y) (ov Y) (Ze Zis) Y Y Y (Nat.le_of_ble_eq_true Y) (Zb Y) Y)<|Dq 11 Y (Zg (ov Y) Y Y Zfr)<|Jb 12 _ _ Y (by kernel_rfl) Y Y (fun h=>by cases h) (fun _=>by exact EL.ext (.wr rfl rfl rfl <| .keep <| .keep <| .nil)) (Zh (ov Y) (ov Y) (Ze Zip) Y Y Y (Nat.le_of_ble_eq_true Y) (Zb Y) Y)<|Dd<|K2 1 2 Y<|QH [some ⟨60, [[.int .i64 m.Slots, .int .i64 m.Limit, .own 2 sectors.length, .own 3 y2.length, .own 4 y3.length]]⟩, some ⟨60, [[.int .i64 0, .int .i64 0, .nils, .nils, .nils]]⟩, some ⟨29, List.map O29 sectors⟩, some ⟨3, List.map R3 y2⟩, some ⟨4, List.map R4 y3⟩] Y<|Tr<|Rq Y (Qj (ov Y) Y Y Y XT Y Y)<|Rx Y (Zh (ov Y) (ov Y) (Zw XT Y) Y Y Y (Nat.le_of_ble_eq_true Y) (Zb Y) Y)<|Za<|?_
   obtain rfl := rt h
   exact Zp<|JJ [some 2, some 3, some 4] Y (.cons (.agg Y Y Y Y XT Y Y) .nil) (.cons Y (roO Q8)<|.cons Y (roM D3)<|.cons Y (roM D4) .nil) Y Y<|Zdr<|rlc (.dat Y)<|rlc (.dat Y)<|rlc (.own _ Y)<|rlc (.own _ Y)<|rlc (.own _ Y) rln
  ·
   refine Dq 5 Y (Zs (ov Y) Y Y Y Zip Y)<|Xb 7 _ Y (by kernel_rfl) Y Y Y (EL.ext<|.wr Y Y Y<|.keep<|.keep .nil) (fun hp' hx=>exW (r := 0) hx Y fun _ ho hn => Zg (ov Y) ho hn ZE)<|bE h fun y3 h_y3 h=>Jb 6 _ _ Y (by kernel_rfl) Y Y (fun h=>by cases h) (fun _=>by exact EL.ext (.wr rfl rfl rfl <| .keep <| .keep <| .nil)) (ZC [] (ZfU h_y3) (.cons (ov Y) (.dat Y) .nil) .nil Y (.keep Y Y<|.keep Y Y<|.keep Y Y<|.keep Y Y<|.lent 0 (.inr ⟨Nat.le_of_ble_eq_true Y, Y⟩) Y (roM D4) .nil) Y Y<|.own _<|.inr ⟨Nat.le_of_ble_eq_true Y, Y⟩)<|Jb 8 _ _ Y (by kernel_rfl) Y Y (fun h=>by cases h) (fun _=>by exact EL.ext (.wr rfl rfl rfl <| .keep <| .keep <| .nil)) (Zh (ov Y) (ov Y) (Ze Z4) Y Y Y (Nat.le_of_ble_eq_true Y) (Zb Y) Y)<|Dq 9 Y (Zg (ov Y) Y Y ZeH)<|Jb 10 _ _ Y (by kernel_rfl) Y Y (fun h=>by cases h) (fun _=>by exact EL.ext (.wr rfl rfl rfl <| .keep <| .keep <| .nil)) (Zh (ov Y) (ov Y) (Ze Zis) Y Y Y (Nat.le_of_ble_eq_true Y) (Zb Y) Y)<|Dq 11 Y (Zg (ov Y) Y Y Zfr)<|Jb 12 _ _ Y (by kernel_rfl) Y Y (fun h=>by cases h) (fun _=>by exact EL.ext (.wr rfl rfl rfl <| .keep <| .keep <| .nil)) (Zh (ov Y) (ov Y) (Ze Zip) Y Y Y (Nat.le_of_ble_eq_true Y) (Zb Y) Y)<|Dd<|K2 1 2 Y<|QH [some ⟨60, [[.int .i64 m.Slots, .int .i64 m.Limit, .own 2 sectors.length, .own 3 y2.length, .own 4 y3.length]]⟩, some ⟨60, [[.int .i64 0, .int .i64 0, .nils, .nils, .nils]]⟩, some ⟨29, List.map O29 sectors⟩, some ⟨3, List.map R3 y2⟩, some ⟨4, List.map R4 y3⟩] Y<|Tr<|Rq Y (Qj (ov Y) Y Y Y XT Y Y)<|Rx Y (Zh (ov Y) (ov Y) (Zw XT Y) Y Y Y (Nat.le_of_ble_eq_true Y) (Zb Y) Y)<|Za<|?_
   obtain rfl := rt h
   exact Zp<|JJ [some 2, some 3, some 4] Y (.cons (.agg Y Y Y Y XT Y Y) .nil) (.cons Y (roO Q8)<|.cons Y (roM D3)<|.cons Y (roM D4) .nil) Y Y<|Zdr<|rlc (.dat Y)<|rlc (.dat Y)<|rlc (.own _ Y)<|rlc (.own _ Y)<|rlc (.own _ Y) rln
theorem Zfl {l : List api_Memory} {r : (List api_Memory)} (h : Xh l = some r) :
 GSpec Tryd.prog gl0 31 [.sl 60 (List.map R60 l)] [] (.own 0 r.length) [some ⟨60, List.map O60 r⟩] := by
 unfold Xh at h
 replace h := Qa h
 refine Qt (by kernel_rfl) Tryd.func31 Y Y<|?_
 intro w0 A W φ0
 refine Tr<|Ra Y<|Za<|K1 0 Y<|Tr<|Ra Y<|Za<|I1 (fun out=>⟨[(3, .own 0 out.length)], [some ⟨60, List.map O60 out⟩]⟩) h (fun h=>?_) fun out h=>?_
 ·
  refine Tr<|Rm Y<|Rl tZ_60 Zcj Y<|Rm Y<|Za<|Zi<|?_
  obtain ⟨r1, hl1, ho1⟩ := Q2 h
  refine L2 (fun out2 i=>⟨[(3, .own 0 out2.length), (6, .sl 60 (List.map R60 l)), (7, .int .i64 (l.length : Int)), (8, .int .i64 i)], [some ⟨60, List.map O60 out2⟩]⟩) hl1 (ES [none]) fun n1 out2 i h=>?_
  unfold XV at h
  refine Tr<|R2 ZX Y<|Za<|Zj<|If h Y (fun h=>?_) fun h=>?_
  ·
   exact Zl<|Zj<|Zi<|K4 3 6 7 8 Y<|Tr<|bE h fun x h_x h=>Rq Y (Z5 (ov Y) (ov Y) Zcj h_x)<|Rq Y (QU (ov Y) XT Y Y)<|Rx Y (ZV (row := [_, _, _, _, _]) 1 Y ZcM Y tZ_60)<|Rx Y (Zh (ov Y) (ov Y) (Zw XT Y) Y Y Y (Nat.le_of_ble_eq_true Y) (Zb Y) Y)<|Za<|K5 3 5 6 7 8 Y<|QH [some ⟨60, List.map O60 out2⟩, some ⟨60, [[.int .i64 x.Slots, .int .i64 x.Limit, .sl 29 (List.map R29 x.Sectors), .sl 3 (List.map R3 x.Wear), .sl 4 (List.map R4 x.Bad)]]⟩] Y<|Zu<|Rm Y<|Rq Y (Qj (ov Y) Y Y Y XT Y Y)<|bE h fun y h_y h=>Rx Y (ZC [] (Zbs h_y) (.cons (ov Y) (Zdr<|rld Y) .nil) .nil Y (.keep Y Y<|.keep Y Y<|.lent 0 (.inr ⟨Nat.le_of_ble_eq_true Y, Y⟩) Y (roO Q8)<|.lent 1 (.inr ⟨Nat.le_of_ble_eq_true Y, Y⟩) Y (roM D3)<|.lent 2 (.inr ⟨Nat.le_of_ble_eq_true Y, Y⟩) Y (roM D4) .nil) Y Y<|Zdr<|rlc (.dat Y)<|rlc (.dat Y)<|rlc (.own _<|.inr ⟨Nat.le_of_ble_eq_true Y, Y⟩)<|rlc (.own _<|.inr ⟨Nat.le_of_ble_eq_true Y, Y⟩)<|rlc (.own _<|.inr ⟨Nat.le_of_ble_eq_true Y, Y⟩) rln)<|Rx Y (Qg (r := 5) Y Zcj (.cons (cva<|ov Y) Y .nil) Y Y)<|bE h fun l2 h_l2 h=>Rx Y (ZD (f := O60) (ov Y) (ZO (o := ⟨60, [[.int .i64 y.Slots, .int .i64 y.Limit, .own 2 y.Sectors.length, .own 3 y.Wear.length, .own 4 y.Bad.length]]⟩) (ov Y) Y Y tZ_60) Zcj Y Y (Zb Y) Y h_l2)<|Ra Y<|ZdK [some ⟨60, List.set (List.map O60 l2) out2.length [.int .i64 y.Slots, .int .i64 y.Limit, .own 2 y.Sectors.length, .own 3 y.Wear.length, .own 4 y.Bad.length]⟩, some ⟨60, [[.int .i64 x.Slots, .int .i64 x.Limit, .sl 29 (List.map R29 x.Sectors), .sl 3 (List.map R3 x.Wear), .sl 4 (List.map R4 x.Bad)]]⟩, some ⟨29, List.map O29 y.Sectors⟩, some ⟨3, List.map R3 y.Wear⟩, some ⟨4, List.map R4 y.Bad⟩, some ⟨60, [[.int .i64 y.Slots, .int .i64 y.Limit, .own 2 y.Sectors.length, .own 3 y.Wear.length, .own 4 y.Bad.length]]⟩] Y<|QA (Ent.absorbH (r := 0) (j := 2) (q := 2) Y (Zm h_l2) Y Y (List.length_map ..) Y)<|QA (Ent.absorbH (r := 0) (j := 3) (q := 3) Y (Zm h_l2) Y Y (List.length_map ..) Y)<|QA (Ent.absorbH (r := 0) (j := 4) (q := 4) Y (Zm h_l2) Y Y (List.length_map ..) Y)<|QA (Ent.closeS (r := 0) Y (Zm h_l2) Y)<|Za<|K4 3 6 7 8 Y<|QH [some ⟨60, List.map O60 l2⟩, some ⟨60, [[.int .i64 x.Slots, .int .i64 x.Limit, .sl 29 (List.map R29 x.Sectors), .sl 3 (List.map R3 x.Wear), .sl 4 (List.map R4 x.Bad)]]⟩, none, none, none, some ⟨60, [[.int .i64 y.Slots, .int .i64 y.Limit, .own 2 y.Sectors.length, .own 3 y.Wear.length, .own 4 y.Bad.length]]⟩] Y<|Zu<|R2 ZN Y<|Rm Y<|Za<|⟨_, h, ES [some 0] (hhp := .cons Y (roO Q9) .nil)⟩
  ·
   refine ZI<|?_
   replace h := lx h ▸ ho1
   exact ⟨_, h, ES [some 0] (hhp := .cons Y (roO Q9) .nil)⟩
 ·
  refine Tr<|Rm Y<|Ra Y<|Za<|?_
  obtain rfl := rt h
  exact Zp<|JJ [some 0] Y (.cons (.tmp Y) .nil) (.cons Y (roO Q9) .nil) Y Y<|.own _ Y
theorem Zdy {sequence : Int} {r : (List Int)} (h : Zaj sequence = some r) :
 CSpec Tryd.prog gl0 49 [.int .i64 sequence] (.sl 5 (List.map R5 r)) := by
 unfold Zaj at h
 replace h := Qa h
 refine So Tryd.func49 Y fun w0 A=>Tr<|Ra Y<|Za<|K1 0 Y<|Tr<|Rx Y (ZhC (r := 0) (xs := ([79, 66] : List Int)) (f := R5) Y Qk (.cons (cvs (ov Y)<|Zk Y) Y (.cons (.b Y) .nil)<|.cons (cvs (ov Y)<|Zk Y) Y (.cons (.b Y) .nil) .nil) Y Y Y)<|Ra Y<|Za<|I1 (fun out=>⟨[(3, .own 0 out.length)], [some ⟨5, List.map R5 out⟩]⟩) h (fun h=>?_) fun out h=>?_
 ·
  refine K2 0 3 Y<|Tr<|Ra Y<|Za<|Zi<|?_
  obtain ⟨r1, hl1, ho1⟩ := Q2 h
  refine L2 (fun out2 shift=>⟨[(0, .int .i64 sequence), (3, .own 0 out2.length), (4, .int .i64 shift)], [some ⟨5, List.map R5 out2⟩]⟩) hl1 (ES [some 0]) fun n1 out2 shift h=>?_
  unfold Zas at h
  refine Zj<|Tr<|Rm Y<|R2 ZgC Y<|Za<|K4 0 3 4 9 Y<|If h Y (fun h=>?_) fun h=>?_
  ·
   exact Zl<|Zj<|Zi<|K3 0 3 4 Y<|Zu<|Rm Y<|Rm Y<|Rm Y<|bE h fun q h_q h=>Rq Y (ZbF (ov Y) (ov Y) h_q)<|Rq Y (Qm (ov Y) tI3 tI5 Y)<|R_q (.sl 5<|List.map R5 ([(u8 q)] : List Int)) Y (XU Qk (.cons (cvs (ov Y)<|Zk Y) Y (.cons (.b Y) .nil) .nil) Y Y)<|bE h fun l h_l h=>Rx Y (QN (ov Y) (QR (ov Y) tZ_5) Qk Y Y Y (fun _=>Zb Y) Y h_l)<|Ra Y<|Za<|K3 0 3 4 Y<|Zu<|Rm Y<|R2 Zgh Y<|Ra Y<|Za<|⟨_, h, ES [some 0]⟩
  ·
   refine ZI<|?_
   replace h := lx h ▸ ho1
   exact ⟨_, h, ES [some 0]⟩
 ·
  refine I1 (fun out3=>⟨[(3, .own 0 out3.length)], [some ⟨5, List.map R5 out3⟩]⟩) h (fun h=>?_) fun out3 h=>?_
  ·
   refine Tr<|Rm Y<|bE h fun u h_u h=>Rq Y (Zkp (ov Y) Y Y Qk (oi<|ov Y) (oi<|ov Y) h_u)<|Rq Y (ZjC (ov Y) Y (List.length_map ..) Qk)<|Rm Y<|Za<|Zi<|?_
   obtain ⟨r2, hl2, ho2⟩ := Q2 h
   refine Zkg (τ := Option (List Int)) _ (fun b s=>Option.elim b (t2 (fun out4 i=>(⟨[(3, .own 0 out4.length), (20, .osl 0 out4.length (Int.toNat 2) (Int.toNat (6 - 2))), (21, .int .i64 ((Int.toNat (6 - 2) : Nat) : Int)), (22, .int .i64 i)], [some ⟨5, List.map R5 out4⟩]⟩ : St)) s) fun old2=>t2 (fun out4 i=>(⟨[(3, .own 1 out4.length), (20, .osl 0 old2.length (Int.toNat 2) (Int.toNat (6 - 2))), (21, .int .i64 ((Int.toNat (6 - 2) : Nat) : Int)), (22, .int .i64 i)], [some ⟨5, List.map R5 old2⟩, some ⟨5, List.map R5 out4⟩]⟩ : St)) s) (fun b s => ∃ tl, Option.getD b s.1 = out ++ tl) none _ hl2 Zjm (Ent.sel [some 0] (sr 3 Y (.own _ Y)<|sr 20 Y (.osl _ _ _ Y)<|sd 21 Y Y<|sd 22 Y Y sn) (.cons Y (roM D5) .nil) Y Y) fun b2 n2 s2 hC h=>?_
   obtain ⟨out4, i⟩ := s2
   replace h := t2i h
   unfold ZaH at h
   rcases b2 with _ | old2
   ·
    replace hC : ∃ tl, out4 = out ++ tl := hC
    show T _ _ ⟨[(3, .own 0 out4.length), (20, .osl 0 out4.length (Int.toNat 2) (Int.toNat (6 - 2))), (21, .int .i64 ((Int.toNat (6 - 2) : Nat) : Int)), (22, .int .i64 i)], [some ⟨5, List.map R5 out4⟩]⟩ _
    refine Tr<|R2 ZX Y<|Za<|Zj<|If h Y (fun h=>?_) fun h=>?_
    ·
     refine Zl<|Zj<|Zi<|K4 3 20 21 22 Y<|Tr<|bE h fun u2 h_u2 h=>bE h fun x2 h_x2 h=>?_
     have h_x2P := ZiW hC h_x2
     refine Rq Y (Zj0 (ov Y) (ov Y) Qk Y Y (ZeN h_u).1 h_u2 h_x2P)<|Rq Y (QY (ov Y) Y Y h_x2P tS5 Y)<|Ra Y<|Za<|K5 3 6 20 21 22 Y<|Zu<|Rm Y<|Rm Y<|R1 ZiQ Y<|R_q (.sl 5<|List.map R5 ([(Zdz .u8 255 x2)] : List Int)) Y (XU Qk (.cons (cvs (ov Y)<|Zk Y) Y (.cons (.b Y) .nil) .nil) Y Y)<|bE h fun l2 h_l2 h=>Zj7 (f := R5) (tp := 20) (ys := ([(Zdz .u8 255 x2)] : List Int)) Y (ov Y) (QR (ov Y) tZ_5) Qk Y Y Y (fun _=>Zb Y) Y (fun _=>nsR Y) h_l2 Y ?_ ?_
     ·
      exact Ra Y<|Za<|K4 3 20 21 22 Y<|Zu<|R2 ZN Y<|Rm Y<|Za<|⟨none, (l2, (i64 (i + 1))), Zkf hC h_l2, h, Ent.sel [some 0] (sr 3 Y (.own _ Y) <| sr 20 Y (.osl _ _ _ Y) <| sd 21 Y Y <| sd 22 Y Y <| sn) (.cons Y (roM D5) <| .nil) Y Y⟩
     ·
      exact Ra Y<|Za<|K4 3 20 21 22 Y<|Zu<|R2 ZN Y<|Rm Y<|Za<|⟨some out4, (l2, (i64 (i + 1))), hC, h, Ent.sel [some 0, some 1] (sr 3 Y (.own _ Y) <| sr 20 Y (.osl _ _ _ Y) <| sd 21 Y Y <| sd 22 Y Y <| sn) (.cons Y (roM D5) <| .cons Y (roM D5) <| .nil) Y Y⟩
    ·
     refine ZI<|?_
     replace h := lx h ▸ ho2
     exact ⟨_, h, ES [some 0]⟩
   ·
    replace hC : ∃ tl, old2 = out ++ tl := hC
    show T _ _ ⟨[(3, .own 1 out4.length), (20, .osl 0 old2.length (Int.toNat 2) (Int.toNat (6 - 2))), (21, .int .i64 ((Int.toNat (6 - 2) : Nat) : Int)), (22, .int .i64 i)], [some ⟨5, List.map R5 old2⟩, some ⟨5, List.map R5 out4⟩]⟩ _
    refine Tr<|R2 ZX Y<|Za<|Zj<|If h Y (fun h=>?_) fun h=>?_
    ·
     refine Zl<|Zj<|Zi<|K4 3 20 21 22 Y<|Tr<|bE h fun u2 h_u2 h=>bE h fun x2 h_x2 h=>?_
     have h_x2P := ZiW hC h_x2
     exact Rq Y (Zj0 (ov Y) (ov Y) Qk Y Y (ZeN h_u).1 h_u2 h_x2P)<|Rq Y (QY (ov Y) Y Y h_x2P tS5 Y)<|Ra Y<|Za<|K5 3 6 20 21 22 Y<|Zu<|Rm Y<|Rm Y<|R1 ZiQ Y<|R_q (.sl 5<|List.map R5 ([(Zdz .u8 255 x2)] : List Int)) Y (XU Qk (.cons (cvs (ov Y)<|Zk Y) Y (.cons (.b Y) .nil) .nil) Y Y)<|bE h fun l2 h_l2 h=>Rx Y (QN (ov Y) (QR (ov Y) tZ_5) Qk Y Y Y (fun _=>Zb Y) Y h_l2)<|Ra Y<|Za<|K4 3 20 21 22 Y<|Zu<|R2 ZN Y<|Rm Y<|Za<|⟨some old2, (l2, (i64 (i + 1))), hC, h, Ent.sel [some 0, some 1] (sr 3 Y (.own _ Y) <| sr 20 Y (.osl _ _ _ Y) <| sd 21 Y Y <| sd 22 Y Y <| sn) (.cons Y (roM D5) <| .cons Y (roM D5) <| .nil) Y Y⟩
    ·
     refine ZI<|?_
     replace h := lx h ▸ ho2
     exact ⟨_, h, ES [some 1]⟩
  ·
   refine Tr<|Rm Y<|Ra Y<|Za<|?_
   obtain rfl := rt h
   exact Zp (ZK Y (.one<|.tmp Y<|View.ownM Y Y D5))
theorem Zco {s1 : List Int} {s2 : List Int} {r : Bool} (h : Qu s1 s2 = some r) :
 CSpec Tryd.prog gl0 48 [.sl 5 (List.map R5 s1), .sl 5 (List.map R5 s2)] (.bool r) := by
 unfold Qu at h
 replace h := Qa h
 refine So Tryd.func48 Y fun w0 A=>Tr<|Ra Y<|Za<|Zj<|K2 0 1 Y<|Tr<|Rm Y<|Rl tZ_5 Qk Y<|Rm Y<|Rl tZ_5 Qk Y<|R2 XI Y<|Za<|K3 0 1 10 Y<|If h Y (fun h=>?_) fun h=>?_
 ·
  refine K0<|Tr<|Ra Y<|Za<|?_
  obtain rfl := rt h
  exact Zp (ZK Y (.one<|rb Y))
 ·
  refine Zl<|J0 (fun j => (.inr j)) ⟨[], []⟩ h (fun h=>?_) fun h=>?_
  ·
   refine K2 0 1 Y<|Tr<|Rm Y<|Rl tZ_5 Qk Y<|Rm Y<|Za<|Zi<|?_
   obtain ⟨r1, hl1, ho1⟩ := Q2 h
   refine L1 (fun i=>⟨[(0, .sl 5 (List.map R5 s1)), (1, .sl 5 (List.map R5 s2)), (12, .int .i64 (s1.length : Int)), (13, .int .i64 i)], []⟩) hl1 (ES []) fun n1 i h=>?_
   unfold Qz at h
   refine Tr<|R2 ZX Y<|Za<|Zj<|If h Y (fun h=>?_) fun h=>?_
   ·
    refine Zl<|Zj<|Zi<|K4 0 1 12 13 Y<|Tr<|Rm Y<|Ra Y<|Za<|Zj<|K5 0 1 5 12 13 Y<|Qn (cw := md0) (by kernel_rfl)<|D1 0 Zc Y<|D1 1 Zc Y<|bE h fun x h_x h=>Dq 2 Y (Z5 (ov Y) (ov Y) Qk h_x)<|Dq 3 Y (Zd (ov Y) tS5 Y)<|D1 4 Zc Y<|D1 5 Zc Y<|bE h fun x2 h_x2 h=>Dq 6 Y (Z5 (ov Y) (ov Y) Qk h_x2)<|Dq 7 Y (Zd (ov Y) tS5 Y)<|D2 8 XI Y<|Dd<|K5 0 1 12 13 24 Y<|If h Y (fun h=>?_) fun h=>?_
    ·
     refine K0<|Tr<|Ra Y<|Za<|?_
     replace h := lx h ▸ ho1
     obtain rfl := rt h
     exact Zp (ZK Y (.one<|rb Y))
    ·
     exact Zl<|K4 0 1 12 13 Y<|Zu<|R2 ZN Y<|Rm Y<|Za<|⟨_, h, ES []⟩
   ·
    refine ZI<|?_
    replace h := lx h ▸ ho1
    exact ⟨(), h, ES []⟩
  ·
   replace h := elr h
   replace h := t0i h
   refine Tr<|Ra Y<|Za<|?_
   obtain rfl := rt h
   exact Zp (ZK Y (.one<|rb Y))
theorem ZaB {s : List Int} {r : Int × Bool × Bool} (h : Js s = some r) :
 CSpec Tryd.prog gl0 27 [.sl 5 (List.map R5 s)] (.tuple [.int .i64 r.1, .bool r.2.1, .bool r.2.2]) := by
 unfold Js at h
 replace h := Qa h
 refine So Tryd.func27 Y fun w0 A=>Tr<|Ra Y<|Ra Y<|Ra Y<|Za<|Zj<|K1 0 Y<|Tr<|Rm Y<|Rl tZ_5 Qk Y<|R2 ZX Y<|Za<|K2 0 9 Y<|If h Y (fun h=>?_) fun h=>?_
 ·
  refine K0<|Tr<|Ra Y<|Ra Y<|Ra Y<|Za<|?_
  obtain rfl := rt h
  exact Zp (ZK Y (.three (rb Y) (rb Y)<|rb Y))
 ·
  refine Zl<|K1 0 Y<|Tr<|Rm Y<|bE h fun l h_l h=>Rq Y (ZgK (ov Y) Qk on (oi<|ov Y) h_l)<|bE h fun v h_v h=>Rq Y (ZiF (f := C5) (ov Y) ZgL tZ_5 Y h_v)<|Ra Y<|Za<|Zj<|K1 5 Y<|Qn (cw := md0) (by kernel_rfl)<|D1 0 Zc Y<|D1 1 ZA Y<|bE h fun x h_x h=>Dq 2 Y (Qx (ov Y) (ov Y) ZgL h_x)<|Dq 3 Y (Zd (ov Y) tS5<|Qc<|QW (o := 0) (o' := ((Int.toNat 2) * 1)) (Zr arL)<|Q5 h_x)<|Dq 4 Y (Qm (ov Y) tI5 tI3 Y)<|bE h fun q h_q h=>Dq 5 Y (ZcW (ov Y) (ov Y) h_q)<|D1 6 Zc Y<|D1 7 ZA Y<|bE h fun x2 h_x2 h=>Dq 8 Y (Qx (ov Y) (ov Y) ZgL h_x2)<|Dq 9 Y (Zd (ov Y) tS5<|Qc<|QW (o := 0) (o' := ((Int.toNat 3) * 1)) (Zr arL)<|Q5 h_x2)<|Dq 10 Y (Qm (ov Y) tI5 tI3 Y)<|bE h fun q2 h_q2 h=>Dq 11 Y (ZcW (ov Y) (ov Y) h_q2)<|D2 12 Zei Y<|D1 13 Zc Y<|D1 14 ZA Y<|bE h fun x3 h_x3 h=>Dq 15 Y (Qx (ov Y) (ov Y) ZgL h_x3)<|Dq 16 Y (Zd (ov Y) tS5<|Qc<|QW (o := 0) (o' := ((Int.toNat 4) * 1)) (Zr arL)<|Q5 h_x3)<|Dq 17 Y (Qm (ov Y) tI5 tI3 Y)<|bE h fun q3 h_q3 h=>Dq 18 Y (ZcW (ov Y) (ov Y) h_q3)<|D2 19 Zei Y<|D1 20 Zc Y<|D1 21 ZA Y<|bE h fun x4 h_x4 h=>Dq 22 Y (Qx (ov Y) (ov Y) ZgL h_x4)<|Dq 23 Y (Zd (ov Y) tS5<|Qc<|QW (o := 0) (o' := ((Int.toNat 5) * 1)) (Zr arL)<|Q5 h_x4)<|Dq 24 Y (Qm (ov Y) tI5 tI3 Y)<|D2 25 Zei Y<|D1 26 Qb Y<|Dd<|Zj<|Zj<|K2 5 6 Y<|Qn (cw := md0) (by kernel_rfl)<|D1 0 Zc Y<|bE h fun y h_y h=>Dq 1 Y (Zq (ZZ h_y)<|.cons (ov Y) (.b Y)<|.cons (ov Y) (.b Y)<|.cons (ov Y) (.b Y) .nil)<|D1 2 Ji Y<|D1 3 Zc Y<|Dq 4 Y (.guarded ((!y) == false) Y Y Y Y fun h => Zc<|ov Y)<|Dq 5 Y (.guarded ((!y) == false) Y Y Y Y fun h => ZA<|ow Y h)<|bE h fun l2 h_l2 h=>Dq 6 Y (.guarded ((!y) == false) Y Y Y Y fun h => ZiO (f := C5) (ow Y h) ZgL tZ_5 (Zr arL) Y on (oi<|ov Y)<|gdT h_l2 h)<|Dq 7 Y (.guarded ((!y) == false) Y Y Y Y fun h => Zc<|ov Y)<|bE h fun y2 h_y2 h=>Dq 8 Y (.guarded ((!y) == false) Y Y Y Y fun h => Zq (Zdy<|gdT h_y2 h)<|.cons (ow Y h) (.b Y) .nil)<|bE h fun y3 h_y3 h=>Dq 9 Y (.guarded ((!y) == false) Y Y Y Y fun h => Zq (Zco<|gdT h_y3 h)<|.cons (ow Y h) (.b Y)<|.cons (ow Y h) (.b Y) .nil)<|Dq 10 Y (.guarded ((!y) == false) Y Y Y Y fun h => Ji<|ow Y h)<|Dq 11 Y (Zev (ov Y) fun hp=>ow Y<|gF hp)<|Dd<|K3 5 6 50 Y<|If h Y (fun h=>?_) fun h=>?_
  ·
   refine K0<|Tr<|Ra Y<|Ra Y<|Ra Y<|Za<|?_
   obtain rfl := rt h
   exact Zp (ZK Y (.three (rb Y) (rb Y)<|rb Y))
  ·
   refine Zl<|Zj<|K2 5 6 Y<|Qn (cw := md0) (by kernel_rfl)<|D1 0 Zc Y<|D1 1 Zc Y<|D1 2 ZA Y<|bE h fun x5 h_x5 h=>Dq 3 Y (Qx (ov Y) (ov Y) ZgL h_x5)<|Dq 4 Y (Zd (ov Y) tS5<|Qc<|QW (o := 0) (o' := ((Int.toNat 10) * 1)) (Zr arL)<|Q5 h_x5)<|D2 5 XI Y<|D1 6 Qb Y<|D1 7 Qb Y<|D1 8 Qb Y<|Dd<|?_
   obtain rfl := rt h
   exact Zp (ZK Y (.three (rb Y) (rb Y)<|rb Y))
theorem Q3 {data : List Int} {a : Int} {b : Int} {cmp : Int → Int → Option Int} {r : (List Int)} {cmp_f : FuncId} {cmp_c : List AV} (cmp_d : cmp_c.all datB = true) (cmp_h : ∀ (z0 : Int) (z1 : Int) z, cmp z0 z1 = some z → CSpec Tryd.prog gl0 cmp_f ([.int .i64 z0, .int .i64 z1] ++ cmp_c) (.int .i64 z)) (h : Zx data a b cmp = some r) :
 GSpec Tryd.prog gl0 96 [.own 0 data.length, .int .i64 a, .int .i64 b, .fn cmp_f cmp_c] [some ⟨3, List.map R3 data⟩] (.tuple []) [some ⟨3, List.map R3 r⟩] := by
 unfold Zx at h
 replace h := Qa h
 refine Qt (by kernel_rfl) Tryd.func96 Y Y<|?_
 intro w0 A W φ0
 refine Tr<|Rm Y<|R2 ZN Y<|Ra Y<|Za<|Zi<|?_
 obtain ⟨r1, hl1, ho1⟩ := Q2 h
 refine L2 (fun o i=>⟨[(0, .own 0 o.length), (1, .int .i64 a), (2, .int .i64 b), (3, .fn cmp_f cmp_c), (8, .int .i64 i)], [some ⟨3, List.map R3 o⟩]⟩) hl1 (ES [some 0]<|sr 0 Y (.own _ Y)<|sd 1 Y Y<|sd 2 Y Y<|sr 3 Y (rFn<|rld cmp_d)<|sd 8 Y Y sn) fun n1 o i h=>?_
 unfold Zy at h
 refine Zj<|Tr<|Rm Y<|Rm Y<|R2 ZX Y<|Za<|K6 0 1 2 3 8 14 Y<|If h Y (fun h=>?_) fun h=>?_
 ·
  refine Zl<|I1 (fun o2=>⟨[(0, .own 0 o2.length), (1, .int .i64 a), (2, .int .i64 b), (3, .fn cmp_f cmp_c), (8, .int .i64 i)], [some ⟨3, List.map R3 o2⟩]⟩) h (fun h=>?_) fun o2 h=>?_
  ·
   refine Zi<|K5 0 1 2 3 8 Y<|Tr<|Rm Y<|Ra Y<|Za<|Zi<|?_
   obtain ⟨r2, hl2, ho2⟩ := Q2 h
   refine L2 (fun o3 j=>⟨[(0, .own 0 o3.length), (1, .int .i64 a), (2, .int .i64 b), (3, .fn cmp_f cmp_c), (8, .int .i64 i), (9, .int .i64 j)], [some ⟨3, List.map R3 o3⟩]⟩) hl2 (ES [some 0]<|sr 0 Y (.own _ Y)<|sd 1 Y Y<|sd 2 Y Y<|sr 3 Y (rFn<|rld cmp_d)<|sd 8 Y Y<|sd 9 Y Y sn) fun n2 o3 j h=>?_
   unfold Zz at h
   refine Zj<|Zj<|Qn (cw := md0) (by kernel_rfl)<|D1 0 Zc Y<|D1 1 Zc Y<|D2 2 Zcm Y<|D1 3 Zc Y<|Dq 4 Y (.guarded ((decide (a < j)) == true) Y Y Y Y fun h => Zc<|ov Y)<|Dq 5 Y (.guarded ((decide (a < j)) == true) Y Y Y Y fun h => Zc<|ov Y)<|Dq 6 Y (.guarded ((decide (a < j)) == true) Y Y Y Y fun h => Zc<|ov Y)<|bE h fun x h_x h=>Dq 7 Y (.guarded ((decide (a < j)) == true) Y Y Y Y fun h => Xd (ow Y h) (ow Y h) Xt Y Y<|gdT h_x h)<|Dq 8 Y (.guarded ((decide (a < j)) == true) Y Y Y Y fun h => QY (ow Y h) Y Y (gdT h_x h) tS3 Y)<|Dq 9 Y (.guarded ((decide (a < j)) == true) Y Y Y Y fun h => Zc<|ov Y)<|Dq 10 Y (.guarded ((decide (a < j)) == true) Y Y Y Y fun h => Zc<|ov Y)<|Dq 11 Y (.guarded ((decide (a < j)) == true) Y Y Y Y fun h => ZjN (ow Y h) (ov Y) Y)<|bE h fun x2 h_x2 h=>Dq 12 Y (.guarded ((decide (a < j)) == true) Y Y Y Y fun h => Xd (ow Y h) (ow Y h) Xt Y Y<|gdT h_x2 h)<|Dq 13 Y (.guarded ((decide (a < j)) == true) Y Y Y Y fun h => QY (ow Y h) Y Y (gdT h_x2 h) tS3 Y)<|bE h fun y h_y h=>Dq 14 Y (.guarded ((decide (a < j)) == true) Y Y Y Y fun h => Zgk (ow Y h) cmp_d (cmp_h _ _ _<|gdT h_y h)<|.cons (ow Y h) (.b Y)<|.cons (ow Y h) (.b Y) .nil)<|Dq 15 Y (.guarded ((decide (a < j)) == true) Y Y Y Y fun h => ZX (ow Y h)<|ov Y)<|Dq 16 Y (ZbQ (ov Y) fun hp=>ow Y<|gT hp)<|Dd<|K7 0 1 2 3 8 9 34 Y<|If h Y (fun h=>?_) fun h=>?_
   ·
    exact Zl<|Zj<|Zi<|K6 0 1 2 3 8 9 Y<|Qn (cw := md0) (by kernel_rfl)<|D1 0 Zc Y<|D1 1 Zc Y<|D1 5 Zc Y<|D1 6 Zc Y<|D2 7 Zgh Y<|bE h fun x3 h_x3 h=>Dq 8 Y (Xd (ov Y) (ov Y) Xt Y Y h_x3)<|Dq 9 Y (QY (ov Y) Y Y h_x3 tS3 Y)<|D1 10 Zc Y<|D1 11 Zc Y<|bE h fun x4 h_x4 h=>Dq 12 Y (Xd (ov Y) (ov Y) Xt Y Y h_x4)<|Dq 13 Y (QY (ov Y) Y Y h_x4 tS3 Y)<|bE h fun x5 h_x5 h=>Dq 14 Y (Xd (ov Y) (ov Y) Xt Y Y h_x5)<|ZY 2 _ Y (by kernel_rfl) Y Y (fun hp'=>Zc<|ov Y)<|ZY 3 _ Y (by kernel_rfl) Y Y (fun hp'=>Zc<|ov Y)<|ZY 4 _ Y (by kernel_rfl) Y Y (fun hp'=>ZjN (ov Y) (ov Y) Y)<|Do 15 Y (ZaR (u' := x3) (ov Y) (ov Y) (Ze tS3) Y Y h_x5 Y (Zb Y) Y)<|bE h fun x6 h_x6 h=>Dq 16 Y (Xd (ov Y) (ov Y) Xt Y ((List.length_set ..).trans Y) h_x6)<|Do 17 Y (ZaR (u' := x4) (ov Y) (ov Y) (Ze tS3) Y ((List.length_set ..).trans Y) h_x6 Y (Zb Y) Y)<|Dd<|K6 0 1 2 3 8 9 Y<|Zu<|Rm Y<|R2 Zgh Y<|Ra Y<|Za<|⟨_, h, ES [some 0]<|sr 0 Y (Zen (Eq.symm<|(List.length_set ..).trans<|(List.length_set ..).trans Y) Y)<|sd 1 Y Y<|sd 2 Y Y<|sr 3 Y (rFn<|rld cmp_d)<|sd 8 Y Y<|sd 9 Y Y sn⟩
   ·
    refine ZI<|?_
    replace h := lx h ▸ ho2
    exact ⟨_, h, ES [some 0]<|sr 0 Y (.own _ Y)<|sd 1 Y Y<|sd 2 Y Y<|sr 3 Y (rFn<|rld cmp_d)<|sd 8 Y Y sn⟩
  ·
   exact Zu<|Rm Y<|R2 ZN Y<|Ra Y<|Za<|⟨_, h, ES [some 0]<|sr 0 Y (.own _ Y)<|sd 1 Y Y<|sd 2 Y Y<|sr 3 Y (rFn<|rld cmp_d)<|sd 8 Y Y sn⟩
 ·
  refine ZI<|?_
  replace h := lx h ▸ ho1
  obtain rfl := rt h
  exact Zhn [some 0] Y .nil (.cons Y (roM D3) .nil) Y Y<|Xc rln
theorem ZbU {data : List Int} {n : Int} {cmp : Int → Int → Option Int} {r : (List Int)} {cmp_f : FuncId} {cmp_c : List AV} (cmp_d : cmp_c.all datB = true) (cmp_h : ∀ (z0 : Int) (z1 : Int) z, cmp z0 z1 = some z → CSpec Tryd.prog gl0 cmp_f ([.int .i64 z0, .int .i64 z1] ++ cmp_c) (.int .i64 z)) (h : Z3 data n cmp = some r) :
 GSpec Tryd.prog gl0 73 [.own 0 data.length, .int .i64 n, .fn cmp_f cmp_c] [some ⟨3, List.map R3 data⟩] (.tuple []) [some ⟨3, List.map R3 r⟩] := by
 unfold Z3 at h
 replace h := Qa h
 refine Qt (by kernel_rfl) Tryd.func73 Y Y<|?_
 intro w0 A W φ0
 refine Tr<|Ra Y<|Za<|Tr<|Rm Y<|Ra Y<|Ra Y<|Za<|I2 (fun o a=>⟨[(0, .own 0 o.length), (1, .int .i64 n), (2, .fn cmp_f cmp_c), (6, .int .i64 20), (7, .int .i64 a)], [some ⟨3, List.map R3 o⟩]⟩) h (fun h=>?_) fun o a h=>?_
 ·
  refine Zi<|?_
  obtain ⟨r1, hl1, ho1⟩ := Q2 h
  refine L3 (fun o2 a2 b=>⟨[(0, .own 0 o2.length), (1, .int .i64 n), (2, .fn cmp_f cmp_c), (6, .int .i64 20), (7, .int .i64 a2), (8, .int .i64 b)], [some ⟨3, List.map R3 o2⟩]⟩) hl1 (ES [some 0]<|sr 0 Y (.own _ Y)<|sd 1 Y Y<|sr 2 Y (rFn<|rld cmp_d)<|sd 6 Y Y<|sd 7 Y Y<|sd 8 Y Y sn) fun n1 o2 a2 b h=>?_
  unfold ZH at h
  refine Zj<|Tr<|Rm Y<|Rm Y<|R2 ZgJ Y<|Za<|K7 0 1 2 6 7 8 13 Y<|If h Y (fun h=>?_) fun h=>?_
  ·
   exact Zl<|Zi<|K6 0 1 2 6 7 8 Y<|Tr<|Rm Y<|Rm Y<|Rm Y<|Rm Y<|bE h fun y h_y h=>Rx Y (ZC [0] (Q3 cmp_d cmp_h h_y) (.cons (ov Y) (.own _ Y)<|.cons (ov Y) (.dat Y)<|.cons (ov Y) (.dat Y)<|.cons (ov Y) (rFn<|rld cmp_d) .nil) (.cons Y (roM D3) .nil) Y (.lent 0 (.inl Y) Y (roM D3) .nil) Y Y<|Xc<|rld Y)<|Za<|K6 0 1 2 6 7 8 Y<|Tr<|Rm Y<|Ra Y<|Za<|K6 0 1 2 6 7 8 Y<|Zu<|Rm Y<|Rm Y<|R2 ZN Y<|Ra Y<|Za<|⟨_, h, ES [some 0]<|sr 0 Y (Zen (Eq.symm<|ZW h_y) Y)<|sd 1 Y Y<|sr 2 Y (rFn<|rld cmp_d)<|sd 6 Y Y<|sd 7 Y Y<|sd 8 Y Y sn⟩
  ·
   refine ZI<|?_
   replace h := lx h ▸ ho1
   exact ⟨_, h, ES [some 0]<|sr 0 Y (.own _ Y)<|sd 1 Y Y<|sr 2 Y (rFn<|rld cmp_d)<|sd 6 Y Y<|sd 7 Y Y sn⟩
 ·
  refine Tr<|Rm Y<|Rm Y<|Rm Y<|Rm Y<|bE h fun y2 h_y2 h=>Rx Y (ZC [0] (Q3 cmp_d cmp_h h_y2) (.cons (ov Y) (.own _ Y)<|.cons (ov Y) (.dat Y)<|.cons (ov Y) (.dat Y)<|.cons (ov Y) (rFn<|rld cmp_d) .nil) (.cons Y (roM D3) .nil) Y (.lent 0 (.inl Y) Y (roM D3) .nil) Y Y<|Xc<|rld Y)<|Za<|Zi<|?_
  obtain ⟨r2, hl2, ho2⟩ := Q2 h
  refine L1 (fun blockSize=>⟨[(0, .own 0 y2.length), (1, .int .i64 n), (2, .fn cmp_f cmp_c), (6, .int .i64 blockSize)], [some ⟨3, List.map R3 y2⟩]⟩) hl2 (ES [some 0]<|sr 0 Y (Zen (Eq.symm<|ZW h_y2) Y)<|sd 1 Y Y<|sr 2 Y (rFn<|rld cmp_d)<|sd 6 Y Y sn) fun n2 blockSize h=>?_
  unfold ZM at h
  refine Zj<|Tr<|Rm Y<|Rm Y<|R2 ZX Y<|Za<|K5 0 1 2 6 30 Y<|If h Y (fun h=>?_) fun h=>?_
  ·
   refine Zl<|Zi<|K4 0 1 2 6 Y<|Tr<|Rm Y<|R2 Zfo Y<|Ra Y<|Ra Y<|Za<|I0 ⟨[(0, .own 0 y2.length), (1, .int .i64 n), (2, .fn cmp_f cmp_c), (6, .int .i64 blockSize), (7, .int .i64 0)], [some ⟨3, List.map R3 y2⟩]⟩ h (fun h=>?_) fun h=>?_
   ·
    refine Zi<|?_
    obtain ⟨r3, hl3, ho3⟩ := Q2 h
    refine L0 ⟨[(0, .own 0 y2.length), (1, .int .i64 n), (2, .fn cmp_f cmp_c), (6, .int .i64 blockSize), (7, .int .i64 0), (8, .int .i64 (i64 (2 * blockSize)))], [some ⟨3, List.map R3 y2⟩]⟩ hl3 (ES [some 0]<|sr 0 Y (.own _ Y)<|sd 1 Y Y<|sr 2 Y (rFn<|rld cmp_d)<|sd 6 Y Y<|sd 7 Y Y<|sd 8 Y Y sn) fun n3 h=>?_
    unfold Qp at h
    refine Zj<|Tr<|Rm Y<|Rm Y<|R2 ZgJ Y<|Za<|K7 0 1 2 6 7 8 35 Y<|If h Y (fun h=>?_) fun h=>?_
    ·
     exact Zl<|Zi<|(Zh2 h).elim
    ·
     refine ZI<|?_
     replace h := lx h ▸ ho3
     exact ⟨(), h, ES [some 0]<|sr 0 Y (.own _ Y)<|sd 1 Y Y<|sr 2 Y (rFn<|rld cmp_d)<|sd 6 Y Y<|sd 7 Y Y sn⟩
   ·
    refine Zj<|Tr<|Rm Y<|Rm Y<|R2 ZN Y<|Ra Y<|Za<|K6 0 1 2 6 7 9 Y<|Tr<|Rm Y<|Rm Y<|R2 ZX Y<|Za<|K7 0 1 2 6 7 9 54 Y<|If h Y (fun h=>?_) fun h=>?_
    ·
     exact (Zh2 h).elim
    ·
     exact Zl<|K4 0 1 2 6 Y<|Zu<|Rm Y<|R2 Zfo Y<|Ra Y<|Za<|⟨_, h, ES [some 0]<|sr 0 Y (.own _ Y)<|sd 1 Y Y<|sr 2 Y (rFn<|rld cmp_d)<|sd 6 Y Y sn⟩
  ·
   refine ZI<|?_
   replace h := lx h ▸ ho2
   obtain rfl := rt h
   exact Zhn [some 0] Y .nil (.cons Y (roM D3) .nil) Y Y<|Xc rln
theorem ZaO {x : List Int} {cmp : Int → Int → Option Int} {r : (List Int)} {cmp_f : FuncId} {cmp_c : List AV} (cmp_d : cmp_c.all datB = true) (cmp_h : ∀ (z0 : Int) (z1 : Int) z, cmp z0 z1 = some z → CSpec Tryd.prog gl0 cmp_f ([.int .i64 z0, .int .i64 z1] ++ cmp_c) (.int .i64 z)) (h : ZF x cmp = some r) :
 GSpec Tryd.prog gl0 46 [.own 0 x.length, .fn cmp_f cmp_c] [some ⟨3, List.map R3 x⟩] (.tuple []) [some ⟨3, List.map R3 r⟩] := by
 unfold ZF at h
 replace h := Qa h
 refine Qt (by kernel_rfl) Tryd.func46 Y Y<|?_
 intro w0 A W φ0
 refine Zu<|Rm Y<|Rm Y<|Rq Y (Zc8 (ov Y) Y Y Xt)<|Rm Y<|bE h fun y h_y h=>Rx Y (ZC [0] (ZbU cmp_d cmp_h h_y) (.cons (ov Y) (.own _ Y)<|.cons (ov Y) (.dat Y)<|.cons (ov Y) (rFn<|rld cmp_d) .nil) (.cons Y (roM D3) .nil) Y (.lent 0 (.inl Y) Y (roM D3) .nil) Y Y<|Xc<|rld Y)<|Za<|?_
 obtain rfl := rt h
 exact Zhn [some 0] Y .nil (.cons Y (roM D3) .nil) Y Y<|Xc rln
theorem ZcB {i : Int} {c0 : api_Memory} {r : Int} (h : XC i c0 = some r) :
 CSpec Tryd.prog gl0 45 [.int .i64 i, .rp [.int .i64 c0.Slots, .int .i64 c0.Limit, .sl 29 (List.map R29 c0.Sectors), .sl 3 (List.map R3 c0.Wear), .sl 4 (List.map R4 c0.Bad)] 0] (.int .i64 r) := by
 unfold XC at h
 replace h := Qa h
 refine So Tryd.func45 Y fun w0 A=>Tr<|Ra Y<|Za<|K2 0 1 Y<|Tr<|Rq Y (ZP (ov Y) ZE)<|Rq Y (Zd (ov Y) Z4 Y)<|Rm Y<|bE h fun x h_x h=>Rq Y (Z5 (ov Y) (ov Y) ZU h_x)<|Rq Y (Zd (ov Y) Zf5 Y)<|bE h fun y h_y h=>Rq Y (Zq (ZaB h_y)<|.cons (ov Y) (.b Y) .nil)<|Rm Y<|Rq Y (Zn (ov Y) Y)<|Rq Y (Zn (ov Y) Y)<|Rq Y (Zn (ov Y) Y)<|Ra Y<|Ra Y<|Ra Y<|Za<|K1 4 Y<|Tr<|Rm Y<|Ra Y<|Za<|?_
 obtain rfl := rt h
 exact Zp (ZK Y (.one<|rb Y))
theorem Zfc {a : Int} {b : Int} {k : api_Memory} {r : Int} (h : Jg a b k = some r) :
 CSpec Tryd.prog gl0 47 [.int .i64 a, .int .i64 b, .rp [.fn 45 [.rp [.int .i64 k.Slots, .int .i64 k.Limit, .sl 29 (List.map R29 k.Sectors), .sl 3 (List.map R3 k.Wear), .sl 4 (List.map R4 k.Bad)] 0]] 0] (.int .i64 r) := by
 unfold Jg at h
 replace h := Qa h
 refine So Tryd.func47 Y fun w0 A=>Tr<|Ra Y<|Za<|Zj<|Qn (cw := md0) (by kernel_rfl)<|Dq 0 Y (Zd (ov Y) ZkY Y)<|D1 1 Zc Y<|bE h fun y h_y h=>Dq 2 Y (Zgk (ov Y) Y (ZcB h_y)<|.cons (ov Y) (.b Y) .nil)<|Dq 3 Y (Zd (ov Y) ZkY Y)<|D1 4 Zc Y<|bE h fun y2 h_y2 h=>Dq 5 Y (Zgk (ov Y) Y (ZcB h_y2)<|.cons (ov Y) (.b Y) .nil)<|D2 6 Zgh Y<|D1 7 Qb Y<|Dd<|?_
 obtain rfl := rt h
 exact Zp (ZK Y (.one<|rb Y))
theorem Zdi {m : api_Memory} {r : (List Int)} (h : Jv m = some r) :
 CSpec Tryd.prog gl0 26 [.agg [.int .i64 m.Slots, .int .i64 m.Limit, .sl 29 (List.map R29 m.Sectors), .sl 3 (List.map R3 m.Wear), .sl 4 (List.map R4 m.Bad)]] (.sl 3 (List.map R3 r)) := by
 unfold Jv at h
 replace h := Qa h
 refine So Tryd.func26 Y fun w0 A=>Tr<|Rq Y (ZcL (cva<|ov Y) Y tZ_60 Y)<|Ra Y<|Za<|K1 1 Y<|Tr<|Ra Y<|Za<|Tr<|Rq Y (ZgX<|.cons (ov Y) .nil)<|Rx Y (ZV (row := [_]) 0 Y ZlA Y tZ_96)<|Rx Y (Zh (ov Y) (ov Y) (Ze ZkY) Y Y Y (Nat.le_of_ble_eq_true Y) (Zb Y) Y)<|Za<|I1 (fun out=>⟨[(3, .own 0 out.length), (4, .ptr 1 1 0 0)], [some ⟨3, List.map R3 out⟩, some ⟨96, [[.fn 45 [.rp [.int .i64 m.Slots, .int .i64 m.Limit, .sl 29 (List.map R29 m.Sectors), .sl 3 (List.map R3 m.Wear), .sl 4 (List.map R4 m.Bad)] 0]]]⟩]⟩) h (fun h=>?_) fun out h=>?_
 ·
  refine K3 1 3 4 Y<|Tr<|Rq Y (ZP (ov Y) ZE)<|Rq Y (Zd (ov Y) Z4 Y)<|Rl tZ_29 ZU Y<|Rm Y<|Za<|Zi<|?_
  obtain ⟨r1, hl1, ho1⟩ := Q2 h
  refine L2 (fun out2 i=>⟨[(1, .rp [.int .i64 m.Slots, .int .i64 m.Limit, .sl 29 (List.map R29 m.Sectors), .sl 3 (List.map R3 m.Wear), .sl 4 (List.map R4 m.Bad)] 0), (3, .own 0 out2.length), (4, .ptr 1 1 0 0), (12, .sl 29 (List.map R29 m.Sectors)), (13, .int .i64 (m.Sectors.length : Int)), (14, .int .i64 i)], [some ⟨3, List.map R3 out2⟩, some ⟨96, [[.fn 45 [.rp [.int .i64 m.Slots, .int .i64 m.Limit, .sl 29 (List.map R29 m.Sectors), .sl 3 (List.map R3 m.Wear), .sl 4 (List.map R4 m.Bad)] 0]]]⟩]⟩) hl1 (ES [none, some 0] (hhp := .row 3<|.cons Y (ro1 (by exact tZ_96.symm)<|rlc (rFn<|rlc (.dat Y) rln) rln) .nil)) fun n1 out2 i h=>?_
  unfold JQ at h
  refine Tr<|R2 ZX Y<|Za<|Zj<|If h Y (fun h=>?_) fun h=>?_
  ·
   refine Zl<|Zj<|Zi<|K6 1 3 4 12 13 14 Y<|Tr<|Rm Y<|bE h fun x h_x h=>Rq Y (Z5 (ov Y) (ov Y) ZU h_x)<|Rq Y (Zd (ov Y) Zf5 Y)<|Ra Y<|Ra Y<|Za<|K8 1 3 4 5 6 12 13 14 Y<|Tr<|Rm Y<|bE h fun y h_y h=>Rq Y (Zq (ZaB h_y)<|.cons (ov Y) (.b Y) .nil)<|Rm Y<|Rq Y (Zn (ov Y) Y)<|Rq Y (Zn (ov Y) Y)<|Rq Y (Zn (ov Y) Y)<|Ra Y<|Ra Y<|Ra Y<|Za<|K8 1 3 4 5 9 12 13 14 Y<|Tr<|Rm Y<|Rm Y<|Rq Y (.guarded (y.2.2 == true) Y Y Y Y fun h => ZP (ov Y) Zfr)<|Rq Y (.guarded (y.2.2 == true) Y Y Y Y fun h => Zd (ow Y h) Zip Y)<|Rq Y (.guarded (y.2.2 == true) Y Y Y Y fun h => Zc<|ov Y)<|bE h fun x2 h_x2 h=>Rq Y (.guarded (y.2.2 == true) Y Y Y Y fun h => Z5 (ow Y h) (ow Y h) ZgZ<|gdT h_x2 h)<|Rq Y (.guarded (y.2.2 == true) Y Y Y Y fun h => Zd (ow Y h) tS4 Y)<|Rq Y (.guarded (y.2.2 == true) Y Y Y Y fun h => Ji<|ow Y h)<|Rq Y (ZbQ (ov Y) fun hp=>ow Y<|gT hp)<|Za<|K8 1 3 4 5 12 13 14 33 Y<|If h Y (fun h=>?_) fun h=>?_
   ·
    exact K7 1 3 4 5 12 13 14 Y<|Zu<|Rm Y<|Rm Y<|R_q (.sl 3<|List.map R3 ([i] : List Int)) Y (XU Xt (.cons (cvs (ov Y)<|Zk Y) Y (.cons (.b Y) .nil) .nil) Y Y)<|bE h fun l h_l h=>Rx Y (QN (ov Y) (QR (ov Y) tZ_3) Xt Y Y Y (fun _=>Zb Y) Y h_l)<|Ra Y<|Za<|K6 1 3 4 12 13 14 Y<|Zu<|R2 ZN Y<|Rm Y<|Za<|⟨_, h, ES [some 0, some 1] (hhp := .cons Y (roM D3)<|.cons Y (ro1 (by exact tZ_96.symm)<|rlc (rFn<|rlc (.dat Y) rln) rln) .nil)⟩
   ·
    exact Zl<|K6 1 3 4 12 13 14 Y<|Zu<|R2 ZN Y<|Rm Y<|Za<|⟨_, h, ES [some 0, some 1] (hhp := .cons Y (roM D3)<|.cons Y (ro1 (by exact tZ_96.symm)<|rlc (rFn<|rlc (.dat Y) rln) rln) .nil)⟩
  ·
   refine ZI<|?_
   replace h := lx h ▸ ho1
   exact ⟨_, h, ES [some 0, some 1] (hhp := .cons Y (roM D3)<|.cons Y (ro1 (by exact tZ_96.symm)<|rlc (rFn<|rlc (.dat Y) rln) rln) .nil)⟩
 ·
  refine Tr<|Rm Y<|QA (Ent.sel [some 0, none] (sr 3 Y (.own (r' := 0) _ Y)<|sr 4 Y (.frp ⟨Y, ⟨_, Y⟩, Y, Y⟩)<|sr 39 Y (.own (r' := 0) _ Y) sn) (.cons Y (roM D3)<|.row 96 .nil) Y Y)<|Rq Y (ZgX<|.cons (ov Y) .nil)<|bE h fun y2 h_y2 h=>Rx Y (ZC [0] (ZaO Y (fun z0 z1 _ hz=>Zfc hz) h_y2) (.cons (ov Y) (.own _ Y)<|.cons (ov Y) (.dat Y) .nil) (.cons Y (roM D3) .nil) Y (.lent 0 (.inl Y) Y (roM D3)<|.keep Y Y .nil) Y Y<|Xc<|rld Y)<|Za<|K1 3 Y<|Tr<|Rm Y<|Ra Y<|Za<|?_
  obtain rfl := rt h
  exact Zp (ZK Y (.one<|.tmp Y<|View.ownM Y (ZaT h_y2) D3))
theorem Zdw {s : List Int} {i : Int} {r : (Vector Int 97)} (h : Zag s i = some r) :
 CSpec Tryd.prog gl0 28 [.sl 5 (List.map R5 s), .int .i64 i] (.rp (List.map C5 r.toList) 0) := by
 unfold Zag at h
 replace h := Qa h
 refine So Tryd.func28 Y fun w0 A=>Tr<|Ra Y<|Za<|K2 0 1 Y<|Tr<|Rm Y<|R2 Zfo Y<|R2 ZN Y<|Ra Y<|Za<|K2 0 5 Y<|Tr<|Rm Y<|Rm Y<|Rm Y<|R2 ZN Y<|bE h fun l h_l h=>Rq Y (ZgK (ov Y) Qk (oi<|ov Y) (oi<|ov Y) h_l)<|bE h fun v h_v h=>Rq Y (ZiF (f := C5) (ov Y) ZiS tZ_5 Y h_v)<|Ra Y<|Za<|?_
 obtain rfl := rt h
 exact Zp (ZK Y (.one<|rb Y))
theorem Zbx {s : List Int} {f : Int → Option Bool} {r : Int} {f_f : FuncId} {f_c : List AV} (f_d : f_c.all datB = true) (f_h : ∀ (z0 : Int) z, f z0 = some z → CSpec Tryd.prog gl0 f_f ([.int .u8 z0] ++ f_c) (.bool z)) (h : Z6 s f = some r) :
 CSpec Tryd.prog gl0 74 [.sl 5 (List.map R5 s), .fn f_f f_c] (.int .i64 r) := by
 unfold Z6 at h
 replace h := Qa h
 refine So Tryd.func74 Y fun w0 A=>Tr<|Ra Y<|Za<|J0 (fun j => (.inr j)) ⟨[], []⟩ h (fun h=>?_) fun h=>?_
 ·
  refine K2 0 1 Y<|Tr<|Rm Y<|Rl tZ_5 Qk Y<|Rm Y<|Za<|Zi<|?_
  obtain ⟨r1, hl1, ho1⟩ := Q2 h
  refine L1 (fun i=>⟨[(0, .sl 5 (List.map R5 s)), (1, .fn f_f f_c), (7, .int .i64 (s.length : Int)), (8, .int .i64 i)], []⟩) hl1 (ES []<|sd 0 Y Y<|sr 1 Y (rFn<|rld f_d)<|sd 7 Y Y<|sd 8 Y Y sn) fun n1 i h=>?_
  unfold Qi at h
  refine Tr<|R2 ZX Y<|Za<|Zj<|If h Y (fun h=>?_) fun h=>?_
  ·
   refine Zl<|Zj<|Zi<|K4 0 1 7 8 Y<|Tr<|Rm Y<|Ra Y<|Za<|K5 0 1 5 7 8 Y<|Tr<|Rm Y<|Rm Y<|Rm Y<|bE h fun x h_x h=>Rq Y (Z5 (ov Y) (ov Y) Qk h_x)<|Rq Y (Zd (ov Y) tS5 Y)<|bE h fun y h_y h=>Rq Y (Zgk (ov Y) f_d (f_h _ _ h_y)<|.cons (ov Y) (.b Y) .nil)<|Za<|K6 0 1 5 7 8 16 Y<|If h Y (fun h=>?_) fun h=>?_
   ·
    refine K1 5 Y<|Tr<|Rm Y<|Ra Y<|Za<|?_
    replace h := lx h ▸ ho1
    obtain rfl := rt h
    exact Zp (ZK Y (.one<|rb Y))
   ·
    exact Zl<|K4 0 1 7 8 Y<|Zu<|R2 ZN Y<|Rm Y<|Za<|⟨_, h, ES []<|sd 0 Y Y<|sr 1 Y (rFn<|rld f_d)<|sd 7 Y Y<|sd 8 Y Y sn⟩
  ·
   refine ZI<|?_
   replace h := lx h ▸ ho1
   exact ⟨(), h, ES []⟩
 ·
  replace h := elr h
  replace h := t0i h
  refine Tr<|Ra Y<|Za<|?_
  obtain rfl := rt h
  exact Zp (ZK Y (.one<|rb Y))
theorem ZaK {s : List Int} {f : Int → Option Bool} {r : Bool} {f_f : FuncId} {f_c : List AV} (f_d : f_c.all datB = true) (f_h : ∀ (z0 : Int) z, f z0 = some z → CSpec Tryd.prog gl0 f_f ([.int .u8 z0] ++ f_c) (.bool z)) (h : ZT s f = some r) :
 CSpec Tryd.prog gl0 50 [.sl 5 (List.map R5 s), .fn f_f f_c] (.bool r) := by
 unfold ZT at h
 replace h := Qa h
 refine So Tryd.func50 Y fun w0 A=>Tr<|Ra Y<|Za<|Tr<|Rm Y<|Rm Y<|bE h fun y h_y h=>Rq Y (Zq (Zbx f_d f_h h_y)<|.cons (ov Y) (.b Y)<|.cons (ov Y) (Dat.fnC<|.refl fun x hx => .b<|List.all_eq_true.1 f_d x hx) .nil)<|R2 ZgC Y<|Ra Y<|Za<|?_
 obtain rfl := rt h
 exact Zp (ZK Y (.one<|rb Y))
theorem Zfg {b : Int} {r : Bool} (h : Jf b = some r) :
 CSpec Tryd.prog gl0 51 [.int .u8 b] (.bool r) := by
 unfold Jf at h
 replace h := Qa h
 refine So Tryd.func51 Y fun w0 A=>Tr<|Ra Y<|Za<|Tr<|Rm Y<|R2 XI Y<|Ra Y<|Za<|?_
 obtain rfl := rt h
 exact Zp (ZK Y (.one<|rb Y))
theorem Zde {p : Vector Int 97} {r : Int} (h : Jw p = some r) :
 CSpec Tryd.prog gl0 29 [.rp (List.map C5 p.toList) 0] (.int .i64 r) := by
 unfold Jw at h
 replace h := Qa h
 refine So Tryd.func29 Y fun w0 A=>Tr<|Ra Y<|Za<|Zj<|Zi<|K1 0 Y<|Tr<|Rm Y<|R1 ZA Y<|bE h fun x h_x h=>Rq Y (Qx (ov Y) (ov Y) ZiS h_x)<|Rq Y (Zd (ov Y) tS5<|Qc<|QW (o := 0) (o' := ((Int.toNat 96) * 1)) (Zr arL)<|Q5 h_x)<|R2 Zbt Y<|Ra Y<|Za<|K2 0 3 Y<|If h Y (fun h=>?_) fun h=>?_
 ·
  refine K0<|Tr<|Ra Y<|Za<|?_
  obtain rfl := rt h
  exact Zp (ZK Y (.one<|rb Y))
 ·
  refine K1 0 Y<|Tr<|Rm Y<|R1 ZA Y<|bE h fun l h_l h=>Rq Y (ZiO (f := C5) (ov Y) ZiS tZ_5 (Zr arL) Y on on h_l)<|bE h fun y h_y h=>Rq Y (Zq (ZaK Y (fun z0 _ hz=>Zfg hz) h_y)<|.cons (ov Y) (.b Y)<|.cons (ov Y) .fn .nil)<|Ra Y<|Za<|K1 9 Y<|If h Y (fun h=>?_) fun h=>?_
  ·
   refine K0<|Tr<|Ra Y<|Za<|?_
   obtain rfl := rt h
   exact Zp (ZK Y (.one<|rb Y))
  ·
   refine Zl<|K0<|Tr<|Ra Y<|Za<|?_
   obtain rfl := rt h
   exact Zp (ZK Y (.one<|rb Y))
theorem ZfP {m : api_Memory} {r : ring_spot} (h : JM m = some r) :
 CSpec Tryd.prog gl0 32 [.agg [.int .i64 m.Slots, .int .i64 m.Limit, .sl 29 (List.map R29 m.Sectors), .sl 3 (List.map R3 m.Wear), .sl 4 (List.map R4 m.Bad)]] (.agg [.int .i64 r.sector, .int .i64 r.slot]) := by
 unfold JM at h
 replace h := Qa h
 refine So Tryd.func32 Y fun w0 A=>Tr<|Rq Y (ZcL (cva<|ov Y) Y tZ_60 Y)<|Rx Y (ZV (row := [_, _]) 0 Y Zjb Y tZ_83)<|Za<|K2 1 2 Y<|Tr<|Rq Y (QU (ov Y) XT Y Y)<|bE h fun y h_y h=>Rq Y (Zq (Zdi h_y)<|.cons (ov Y) (.aggB Y) .nil)<|Ra Y<|Za<|Zj<|K3 1 2 3 Y<|Tr<|Rm Y<|Rl tZ_3 Xt Y<|R2 Zbt Y<|Za<|K4 1 2 3 10 Y<|If h Y (fun h=>?_) fun h=>?_
 ·
  refine K1 2 Y<|Tr<|Rq Y (Xk (ys := [_, _]) ZjO ZjF Zjb (.cons (cvs (ov Y)<|Zk Y) .nil) Y)<|Rx Y (Zh (ov Y) (ov Y) (Zw ZhG Y) Y Y Y (Nat.le_of_ble_eq_true Y) (Zb Y) Y)<|Za<|?_
  obtain rfl := rt h
  exact Zp (ZK Y (.one<|.agg Y Y Y Y ZhG Y Y<|pwB Y))
 ·
  refine Zl<|K3 1 2 3 Y<|Tr<|Rm Y<|Rm Y<|Rl tZ_3 Xt Y<|R2 Zgh Y<|bE h fun x h_x h=>Rq Y (Z5 (ov Y) (ov Y) Xt h_x)<|Rq Y (Zd (ov Y) tS3 Y)<|Rq Y (Xk (ys := [_, _]) ZjO ZjF Zjb (.cons (cvs (ov Y)<|Zk Y) .nil) Y)<|Rx Y (ZV (row := [_, _]) 1 Y Zjb Y tZ_83)<|Rx Y (Zh (ov Y) (ov Y) (Zw ZhG Y) Y Y Y (Nat.le_of_ble_eq_true Y) (Zb Y) Y)<|Za<|I1 (fun slot=>⟨[(2, .ptr 0 1 0 0), (4, .ptr 1 1 0 0)], [some ⟨83, [[.int .i64 0, .int .i64 0]]⟩, some ⟨83, [[.int .i64 x, .int .i64 slot]]⟩]⟩) h (fun h=>?_) fun slot h=>?_
  ·
   refine K3 1 2 4 Y<|Tr<|Rq Y (ZP (ov Y) ZgS)<|Rq Y (Zd (ov Y) tS3 Y)<|Rm Y<|Za<|Zi<|?_
   obtain ⟨r1, hl1, ho1⟩ := Q2 h
   refine L2 (fun slot2 i=>⟨[(1, .rp [.int .i64 m.Slots, .int .i64 m.Limit, .sl 29 (List.map R29 m.Sectors), .sl 3 (List.map R3 m.Wear), .sl 4 (List.map R4 m.Bad)] 0), (2, .ptr 0 1 0 0), (4, .ptr 1 1 0 0), (20, .int .i64 m.Slots), (21, .int .i64 i)], [some ⟨83, [[.int .i64 0, .int .i64 0]]⟩, some ⟨83, [[.int .i64 x, .int .i64 slot2]]⟩]⟩) hl1 (ES [some 0, some 1]) fun n1 slot2 i h=>?_
   unfold Jr at h
   refine Tr<|R2 ZX Y<|Za<|Zj<|If h Y (fun h=>?_) fun h=>?_
   ·
    refine Zl<|Zj<|Zi<|K5 1 2 4 20 21 Y<|Tr<|Rm Y<|Ra Y<|Za<|K6 1 2 4 5 20 21 Y<|Tr<|Rq Y (ZP (ov Y) ZE)<|Rq Y (Zd (ov Y) Z4 Y)<|Rq Y (Zg (ov Y) Y Y ZfJ)<|Rq Y (Zs (ov Y) Y Y Y tS3 Y)<|bE h fun x2 h_x2 h=>Rq Y (Z5 (ov Y) (ov Y) ZU h_x2)<|Rq Y (Zd (ov Y) Zf5 Y)<|Rm Y<|bE h fun y2 h_y2 h=>Rq Y (Zq (Zdw h_y2)<|.cons (ov Y) (.b Y)<|.cons (ov Y) (.b Y) .nil)<|bE h fun y3 h_y3 h=>Rq Y (Zq (Zde h_y3)<|.cons (ov Y) (.b Y) .nil)<|R2 XI Y<|Za<|K7 1 2 4 5 20 21 33 Y<|If h Y (fun h=>?_) fun h=>?_
    ·
     exact K6 1 2 4 5 20 21 Y<|Zu<|Rm Y<|R2 ZN Y<|Rq Y (Zg (ov Y) Y Y ZgF)<|Rx Y (Zh (ov Y) (ov Y) (Ze tS3) Y Y Y (Nat.le_of_ble_eq_true Y) (Zb Y) Y)<|Za<|K5 1 2 4 20 21 Y<|Zu<|R2 ZN Y<|Rm Y<|Za<|⟨_, h, ES [some 0, some 1]⟩
    ·
     exact Zl<|K5 1 2 4 20 21 Y<|Zu<|R2 ZN Y<|Rm Y<|Za<|⟨_, h, ES [some 0, some 1]⟩
   ·
    refine ZI<|?_
    replace h := lx h ▸ ho1
    exact ⟨_, h, ES [some 0, some 1]⟩
  ·
   refine Tr<|Rq Y (Qj (ov Y) Y Y Y ZhG Y Y)<|Rx Y (Zh (ov Y) (ov Y) (Zw ZhG Y) Y Y Y (Nat.le_of_ble_eq_true Y) (Zb Y) Y)<|Za<|?_
   obtain rfl := rt h
   exact Zp (ZK Y (.one<|.agg Y Y Y Y ZhG Y Y<|pwB Y))
theorem Zdl {l : List api_Memory} {copies : Int} {r : (Int) ⊕ (ring_Recorder × Int)} (h : J4 l copies = some r) :
 GSpec Tryd.prog gl0 13 [.sl 60 (List.map R60 l), .int .i64 copies] [] (Sum.elim (fun r => .tuple [.lit (.pointer none), .int .i64 r]) (fun r => .tuple [.ptr 0 1 0 0, .int .i64 r.2]) r) (Sum.elim (fun r => []) (fun r => [some ⟨80, [[.own 1 r.1.bank.memories.length, .own 2 r.1.bank.spots.length, .int .i64 r.1.copies, .bool r.1.frozen, .bool r.1.stopped, .int .i64 r.1.last, .bool r.1.some_]]⟩, some ⟨60, List.map O60 r.1.bank.memories⟩, some ⟨83, List.map R83 r.1.bank.spots⟩]) r) := by
 unfold J4 at h
 replace h := Qa h
 refine Qt (by kernel_rfl) Tryd.func13 Y Y<|?_
 intro w0 A W φ0
 refine Tr<|Ra Y<|Ra Y<|Za<|Zj<|K2 0 1 Y<|Tr<|Rm Y<|bE h fun y h_y h=>Rq Y (Zq (ZcP h_y)<|.cons (ov Y) (.b Y) .nil)<|Ra Y<|Za<|K3 0 1 6 Y<|Tr<|Rm Y<|R2 XI Y<|Za<|K4 0 1 6 17 Y<|If h Y (fun h=>?_) fun h=>?_
 ·
  refine K1 6 Y<|Tr<|Rm Y<|Ra Y<|Ra Y<|Za<|?_
  obtain rfl := rt h
  exact Zp<|JJ [] Y (.cons (.tmp Y)<|.cons (.tmp Y) .nil) .nil Y Y<|Xc<|rlc (.dat Y)<|rlc (.dat Y) rln
 ·
  refine Zl<|Zj<|K2 0 1 Y<|Tr<|Rm Y<|Rm Y<|Rl tZ_60 Zcj Y<|bE h fun y2 h_y2 h=>Rq Y (Zq (ZZ h_y2)<|.cons (ov Y) (.b Y)<|.cons (ov Y) (.b Y)<|.cons (ov Y) (.b Y) .nil)<|R1 Ji Y<|Za<|K3 0 1 23 Y<|If h Y (fun h=>?_) fun h=>?_
  ·
   refine K0<|Tr<|Ra Y<|Ra Y<|Za<|?_
   obtain rfl := rt h
   exact Zp<|JJ [] Y (.cons (.tmp Y)<|.cons (.tmp Y) .nil) .nil Y Y<|Xc<|rlc (.dat Y)<|rlc (.dat Y) rln
  ·
   refine Zl<|K2 0 1 Y<|Tr<|Rm Y<|Rq Y (Xk (ys := [_, _, _, _, _, _, _]) Zli Zlh Zly (.cons (cvs (ov Y)<|Zk Y) .nil) Y)<|Rx Y (ZiR 0 Y (ov Y) Zlw Y)<|Ra Y<|Za<|K2 0 7 Y<|Tr<|Rm Y<|Rm Y<|bE h fun y3 h_y3 h=>Rx Y (ZC [] (Zfl h_y3) (.cons (ov Y) (.dat Y) .nil) .nil Y (.keep Y Y<|.lent 0 (.inr ⟨Nat.le_of_ble_eq_true Y, Y⟩) Y (roO Q9) .nil) Y Y<|.own _<|.inr ⟨Nat.le_of_ble_eq_true Y, Y⟩)<|Rq Y (Zt (ov Y) Y Y)<|Rq Y (Zg (ov Y) Y Y ZdG)<|Rq Y (Zg (ov Y) Y Y ZcZ)<|Rx Y (Zh (ov Y) (ov Y) (Ze ZhI) Y Y Y (Nat.le_of_ble_eq_true Y) (Zb Y) Y)<|Za<|I2 (fun spots frozen=>⟨[(7, .ptr 0 1 0 0)], [some ⟨80, [[.own 1 y3.length, .own 2 spots.length, .int .i64 copies, .bool frozen, .bool false, .int .i64 0, .bool false]]⟩, some ⟨60, List.map O60 y3⟩, some ⟨83, List.map R83 spots⟩]⟩) h (fun h=>?_) fun spots frozen h=>?_
   ·
    refine K1 7 Y<|QH [some ⟨80, [[.own 1 y3.length, .nils, .int .i64 copies, .bool false, .bool false, .int .i64 0, .bool false]]⟩, some ⟨60, List.map O60 y3⟩] Y<|Tr<|Rm Y<|Rq Y (Zt (ov Y) Y Y)<|Rq Y (Zg (ov Y) Y Y ZdG)<|Rq Y (Zg (ov Y) Y Y ZcZ)<|Rq Y (Zs (ov Y) Y Y Y ZhI Y)<|Rq Y (Zc8 (ov Y) Y Y Zcj)<|Rm Y<|Za<|Zi<|?_
    obtain ⟨r1, hl1, ho1⟩ := Q2 h
    refine L3 (fun spots2 frozen2 i=>⟨[(7, .ptr 0 1 0 0), (37, .own 1 y3.length), (38, .int .i64 (y3.length : Int)), (39, .int .i64 i)], [some ⟨80, [[.own 1 y3.length, .own 2 spots2.length, .int .i64 copies, .bool frozen2, .bool false, .int .i64 0, .bool false]]⟩, some ⟨60, List.map O60 y3⟩, some ⟨83, List.map R83 spots2⟩]⟩) hl1 (ES [some 0, some 1, none] (hhp := .cons Y (ro1 (by exact tZ_80.symm)<|rlc (.own _ Y)<|rlc (.row Y)<|rlc (.dat Y)<|rlc (.dat Y)<|rlc (.dat Y)<|rlc (.dat Y)<|rlc (.dat Y) rln)<|.cons Y (roO Q9)<|.row 83 .nil)) fun n1 spots2 frozen2 i h=>?_
    unfold Zbq at h
    refine Tr<|R2 ZX Y<|Za<|Zj<|If h Y (fun h=>?_) fun h=>?_
    ·
     refine Zl<|Zj<|Zi<|K4 7 37 38 39 Y<|Tr<|bE h fun x h_x h=>Rq Y (Xd (ov Y) (ov Y) Zcj Y Y h_x)<|QA (Ent.focusH (r := 1) (j := 2) (e' := 29) (g := O29) (ys := x.Sectors) Y (Zv h_x).2 Y Q8)<|QA (Ent.focusI (r := 1) (j := 3) (e' := 3) (g := R3) (ys := x.Wear) Y (Zv h_x).2 Y DR3)<|QA (Ent.focusI (r := 1) (j := 4) (e' := 4) (g := R4) (ys := x.Bad) Y (Zv h_x).2 Y DR4)<|Rq Y (Zjy (ov Y) Y Y (Zv h_x).2 XT Y Y)<|Rx Y (ZV (row := [_, _, _, _, _]) 6 Y ZcM Y tZ_60)<|Rx Y (Zh (ov Y) (ov Y) (Zw XT Y) Y Y Y (Nat.le_of_ble_eq_true Y) (Zb Y) Y)<|ZdK [some ⟨80, [[.own 1 y3.length, .own 2 spots2.length, .int .i64 copies, .bool frozen2, .bool false, .int .i64 0, .bool false]]⟩, some ⟨60, List.set (List.map O60 y3) i.toNat [.int .i64 x.Slots, .int .i64 x.Limit, .own 3 x.Sectors.length, .own 4 x.Wear.length, .own 5 x.Bad.length]⟩, some ⟨83, List.map R83 spots2⟩, some ⟨29, List.map O29 x.Sectors⟩, some ⟨3, List.map R3 x.Wear⟩, some ⟨4, List.map R4 x.Bad⟩, some ⟨60, [[.int .i64 x.Slots, .int .i64 x.Limit, .own 3 x.Sectors.length, .own 4 x.Wear.length, .own 5 x.Bad.length]]⟩] Y<|Za<|K5 7 9 37 38 39 Y<|Tr<|Rq Y (Qj (ov Y) Y Y Y XT Y Y)<|bE h fun y4 h_y4 h=>Rq Y (ZbV (ZfP h_y4) (.agg<|by simp only [List.mem_cons, List.not_mem_nil, or_false, forall_eq_or_imp, forall_eq]; exact ⟨.int, .int⟩)<|.cons (ov Y) (View.aggL<|.cons (Dat.view<|.b Y)<|.cons (Dat.view<|.b Y)<|.cons (View.ownO Y Y Q8 (fun x=>(D29 x).1) ZkZ)<|.cons (View.ownM Y Y D3)<|.cons (View.ownM Y Y D4) .nil) .nil)<|Rx Y (ZV (row := [_, _]) 7 Y Zjb Y tZ_83)<|Rx Y (Zh (ov Y) (ov Y) (Zw ZhG Y) Y Y Y (Nat.le_of_ble_eq_true Y) (Zb Y) Y)<|ZdK [some ⟨80, [[.own 1 y3.length, .own 2 spots2.length, .int .i64 copies, .bool frozen2, .bool false, .int .i64 0, .bool false]]⟩, some ⟨60, List.set (List.map O60 y3) i.toNat [.int .i64 x.Slots, .int .i64 x.Limit, .own 3 x.Sectors.length, .own 4 x.Wear.length, .own 5 x.Bad.length]⟩, some ⟨83, List.map R83 spots2⟩, some ⟨29, List.map O29 x.Sectors⟩, some ⟨3, List.map R3 x.Wear⟩, some ⟨4, List.map R4 x.Bad⟩, some ⟨60, [[.int .i64 x.Slots, .int .i64 x.Limit, .own 3 x.Sectors.length, .own 4 x.Wear.length, .own 5 x.Bad.length]]⟩, some ⟨83, [[.int .i64 y4.sector, .int .i64 y4.slot]]⟩] Y<|Za<|Zj<|K6 7 9 10 37 38 39 Y<|Qn (cw := md0) (by kernel_rfl)<|D1 1 Zc Y<|Dq 2 Y (Zt (ov Y) Y Y)<|Dq 3 Y (Zg (ov Y) Y Y ZdG)<|Dq 4 Y (Zg (ov Y) Y Y Zey)<|Dq 5 Y (Zs (ov Y) Y Y Y Zix Y)<|Dq 6 Y (Qj (ov Y) Y Y Y ZhG Y Y)<|Zkn 7 (.sl 83<|List.map R83 ([y4] : List ring_spot)) Y (by kernel_rfl) Y Y (XU Ziv (.cons (cva<|ov Y) Y (pwD Y) .nil) Y Y)<|ZY 0 _ Y (by kernel_rfl) Y Y (fun hp'=>Zc<|ov Y)<|bE h fun l2 h_l2 h=>Do 8 Y (QN (ov Y) (QR (ov Y) tZ_83) Ziv Y Y Y (fun _=>Zb Y) Y h_l2)<|Dq 9 Y (Zt (ov Y) Y Y)<|Dq 10 Y (Zg (ov Y) Y Y ZdG)<|Dq 11 Y (Zg (ov Y) Y Y Zey)<|Do 12 Y (Zh (ov Y) (ov Y) (Ze Zix) Y Y Y (Nat.le_of_ble_eq_true Y) (Zb Y) Y)<|Dd<|K6 7 9 10 37 38 39 Y<|QH [some ⟨80, [[.own 1 y3.length, .own 2 l2.length, .int .i64 copies, .bool frozen2, .bool false, .int .i64 0, .bool false]]⟩, some ⟨60, List.set (List.map O60 y3) i.toNat [.int .i64 x.Slots, .int .i64 x.Limit, .own 3 x.Sectors.length, .own 4 x.Wear.length, .own 5 x.Bad.length]⟩, some ⟨83, List.map R83 l2⟩, some ⟨29, List.map O29 x.Sectors⟩, some ⟨3, List.map R3 x.Wear⟩, some ⟨4, List.map R4 x.Bad⟩, some ⟨60, [[.int .i64 x.Slots, .int .i64 x.Limit, .own 3 x.Sectors.length, .own 4 x.Wear.length, .own 5 x.Bad.length]]⟩, some ⟨83, [[.int .i64 y4.sector, .int .i64 y4.slot]]⟩] Y<|Tr<|Rq Y (Zg (ov Y) Y Y ZfJ)<|Rq Y (Zs (ov Y) Y Y Y tS3 Y)<|R2 ZgC Y<|Za<|K7 7 9 10 37 38 39 59 Y<|If h Y (fun h=>?_) fun h=>?_
     ·
      exact K6 7 9 10 37 38 39 Y<|Tr<|Rq Y (Zg (ov Y) Y Y ZE)<|Rq Y (Zs (ov Y) Y Y Y Z4 Y)<|Rq Y (Zg (ov Y) Y Y ZfJ)<|Rq Y (Zs (ov Y) Y Y Y tS3 Y)<|bE h fun x2 h_x2 h=>Rq Y (Xd (ov Y) (ov Y) ZU Y Y h_x2)<|QA (Ent.focusH (r := 3) (j := 0) (e' := 5) (g := R5) (ys := x2) Y (Zv h_x2).2 Y DR5)<|Rq Y (Zby (ov Y) Y Y (Zv h_x2).2 Zf5 Y)<|bE h fun y5 h_y5 h=>Rq Y (ZbV (ZaB h_y5) (.tuple<|by simp only [List.mem_cons, List.not_mem_nil, or_false, forall_eq_or_imp, forall_eq]; exact ⟨.int, .bool, .bool⟩)<|.cons (ov Y) (View.ownM Y Y D5) .nil)<|Rm Y<|Rq Y (Zn (ov Y) Y)<|Rq Y (Zn (ov Y) Y)<|Rq Y (Zn (ov Y) Y)<|Ra Y<|Ra Y<|Ra Y<|ZdK [some ⟨80, [[.own 1 y3.length, .own 2 l2.length, .int .i64 copies, .bool frozen2, .bool false, .int .i64 0, .bool false]]⟩, some ⟨60, List.set (List.map O60 y3) i.toNat [.int .i64 x.Slots, .int .i64 x.Limit, .own 3 x.Sectors.length, .own 4 x.Wear.length, .own 5 x.Bad.length]⟩, some ⟨83, List.map R83 l2⟩, some ⟨29, List.set (List.map O29 x.Sectors) y4.sector.toNat [.own 8 x2.length]⟩, some ⟨3, List.map R3 x.Wear⟩, some ⟨4, List.map R4 x.Bad⟩, some ⟨60, [[.int .i64 x.Slots, .int .i64 x.Limit, .own 3 x.Sectors.length, .own 4 x.Wear.length, .own 5 x.Bad.length]]⟩, some ⟨83, [[.int .i64 y4.sector, .int .i64 y4.slot]]⟩, some ⟨5, List.map R5 x2⟩] Y<|QA (Ent.absorbH (r := 3) (j := 0) (q := 8) Y (Zv h_x2).2 Y Y (List.length_map ..) Y)<|QA (Ent.closeS (r := 3) Y (Zv h_x2).2 Y)<|QA (Ent.absorbH (r := 1) (j := 2) (q := 3) Y (Zv h_x).2 Y Y (List.length_map ..) Y)<|QA (Ent.absorbH (r := 1) (j := 3) (q := 4) Y (Zv h_x).2 Y Y (List.length_map ..) Y)<|QA (Ent.absorbH (r := 1) (j := 4) (q := 5) Y (Zv h_x).2 Y Y (List.length_map ..) Y)<|QA (Ent.closeS (r := 1) Y (Zv h_x).2 Y)<|Za<|K5 7 12 37 38 39 Y<|QH [some ⟨80, [[.own 1 y3.length, .own 2 l2.length, .int .i64 copies, .bool frozen2, .bool false, .int .i64 0, .bool false]]⟩, some ⟨60, List.map O60 y3⟩, some ⟨83, List.map R83 l2⟩, none, none, none, some ⟨60, [[.int .i64 x.Slots, .int .i64 x.Limit, .own 3 x.Sectors.length, .own 4 x.Wear.length, .own 5 x.Bad.length]]⟩, some ⟨83, [[.int .i64 y4.sector, .int .i64 y4.slot]]⟩, none] Y<|Zu<|Rm Y<|Rm Y<|Rq Y (Zt (ov Y) Y Y)<|Rq Y (Zg (ov Y) Y Y ZiG)<|Rq Y (Zs (ov Y) Y Y Y tS4 Y)<|Rm Y<|Rq Y (.guarded (frozen2 == false) Y Y Y Y fun h => Zc<|ov Y)<|Rq Y (Zev (ov Y) fun hp=>ow Y<|gF hp)<|Rq Y (Zt (ov Y) Y Y)<|Rq Y (Zg (ov Y) Y Y ZiG)<|Rx Y (Zh (ov Y) (ov Y) (Ze tS4) Y Y Y (Nat.le_of_ble_eq_true Y) (Zb Y) Y)<|Za<|K4 7 37 38 39 Y<|QH [some ⟨80, [[.own 1 y3.length, .own 2 l2.length, .int .i64 copies, .bool (frozen2 || y5.2.1), .bool false, .int .i64 0, .bool false]]⟩, some ⟨60, List.map O60 y3⟩, some ⟨83, List.map R83 l2⟩, none, none, none, some ⟨60, [[.int .i64 x.Slots, .int .i64 x.Limit, .own 3 x.Sectors.length, .own 4 x.Wear.length, .own 5 x.Bad.length]]⟩, some ⟨83, [[.int .i64 y4.sector, .int .i64 y4.slot]]⟩, none] Y<|Zu<|R2 ZN Y<|Rm Y<|Za<|⟨_, h, ES [some 0, some 1, some 2] (hhp := .cons Y (ro1 (by exact tZ_80.symm)<|rlc (.own _ Y)<|rlc (.own _ Y)<|rlc (.dat Y)<|rlc (.dat Y)<|rlc (.dat Y)<|rlc (.dat Y)<|rlc (.dat Y) rln)<|.cons Y (roO Q9)<|.cons Y (roM D83) .nil)⟩
     ·
      exact Zl<|K4 7 37 38 39 Y<|Zu<|R2 ZN Y<|Rm Y<|QA (Ent.absorbH (r := 1) (j := 2) (q := 3) Y (Zv h_x).2 Y Y (List.length_map ..) Y)<|QA (Ent.absorbH (r := 1) (j := 3) (q := 4) Y (Zv h_x).2 Y Y (List.length_map ..) Y)<|QA (Ent.absorbH (r := 1) (j := 4) (q := 5) Y (Zv h_x).2 Y Y (List.length_map ..) Y)<|QA (Ent.closeS (r := 1) Y (Zv h_x).2 Y)<|Za<|⟨_, h, ES [some 0, some 1, some 2] (hhp := .cons Y (ro1 (by exact tZ_80.symm)<|rlc (.own _ Y)<|rlc (.own _ Y)<|rlc (.dat Y)<|rlc (.dat Y)<|rlc (.dat Y)<|rlc (.dat Y)<|rlc (.dat Y) rln)<|.cons Y (roO Q9)<|.cons Y (roM D83) .nil)⟩
    ·
     refine ZI<|?_
     replace h := lx h ▸ ho1
     exact ⟨_, h, ES [some 0, some 1, some 2] (hhp := .cons Y (ro1 (by exact tZ_80.symm)<|rlc (.own _ Y)<|rlc (.own _ Y)<|rlc (.dat Y)<|rlc (.dat Y)<|rlc (.dat Y)<|rlc (.dat Y)<|rlc (.dat Y) rln)<|.cons Y (roO Q9)<|.cons Y (roM D83) .nil)⟩
   ·
    refine Tr<|Rm Y<|Ra Y<|Ra Y<|Za<|?_
    obtain rfl := rt h
    exact Zp<|JJ [some 0, some 1, some 2] Y (.cons (.tmp Y)<|.cons (.tmp Y) .nil) (.cons Y (ro1 (by exact tZ_80.symm)<|rlc (.own _ Y)<|rlc (.own _ Y)<|rlc (.dat Y)<|rlc (.dat Y)<|rlc (.dat Y)<|rlc (.dat Y)<|rlc (.dat Y) rln)<|.cons Y (roO Q9)<|.cons Y (roM D83) .nil) Y Y<|Xc<|rlc (.ptr _ _ _ Y)<|rlc (.dat Y) rln
theorem Zeg {l : List api_Memory} {copies : Int} {r : Int} (h : J4 l copies = some (.inl r)) :
    GSpec Tryd.prog gl0 13 [.sl 60 (List.map R60 l), .int .i64 copies] [] (.tuple [.lit (.pointer none), .int .i64 r]) [] := Zdl h
theorem Zed {l : List api_Memory} {copies : Int} {r : ring_Recorder × Int} (h : J4 l copies = some (.inr r)) :
    GSpec Tryd.prog gl0 13 [.sl 60 (List.map R60 l), .int .i64 copies] [] (.tuple [.ptr 0 1 0 0, .int .i64 r.2]) [some ⟨80, [[.own 1 r.1.bank.memories.length, .own 2 r.1.bank.spots.length, .int .i64 r.1.copies, .bool r.1.frozen, .bool r.1.stopped, .int .i64 r.1.last, .bool r.1.some_]]⟩, some ⟨60, List.map O60 r.1.bank.memories⟩, some ⟨83, List.map R83 r.1.bank.spots⟩] := Zdl h
theorem Zdu {r_ : ring_Recorder} {power : Int} {r : Int} (h : Q1 r_ power = some r) :
 CSpec Tryd.prog gl0 33 [.rp [.sl 60 (List.map R60 r_.bank.memories), .sl 83 (List.map R83 r_.bank.spots), .int .i64 r_.copies, .bool r_.frozen, .bool r_.stopped, .int .i64 r_.last, .bool r_.some_] 0, .int .i64 power] (.int .i64 r) := by
 unfold Q1 at h
 replace h := Qa h
 refine So Tryd.func33 Y fun w0 A=>Tr<|Ra Y<|Za<|Zj<|Zi<|K2 0 1 Y<|Tr<|Rm Y<|R1 ZA Y<|Rq Y (ZP (ov Y) ZjH)<|Rq Y (Zd (ov Y) tS4 Y)<|Ra Y<|Za<|K3 0 1 5 Y<|If h Y (fun h=>?_) fun h=>?_
 ·
  refine K0<|Tr<|Ra Y<|Za<|?_
  obtain rfl := rt h
  exact Zp (ZK Y (.one<|rb Y))
 ·
  refine K2 0 1 Y<|Tr<|Rm Y<|R1 ZA Y<|Rq Y (ZP (ov Y) ZiG)<|Rq Y (Zd (ov Y) tS4 Y)<|Ra Y<|Za<|K2 1 10 Y<|If h Y (fun h=>?_) fun h=>?_
  ·
   refine K0<|Tr<|Ra Y<|Za<|?_
   obtain rfl := rt h
   exact Zp (ZK Y (.one<|rb Y))
  ·
   refine K1 1 Y<|Tr<|Rm Y<|bE h fun y h_y h=>Rq Y (Zq (ZZ h_y)<|.cons (ov Y) (.b Y)<|.cons (ov Y) (.b Y)<|.cons (ov Y) (.b Y) .nil)<|R1 Ji Y<|Ra Y<|Za<|K1 15 Y<|If h Y (fun h=>?_) fun h=>?_
   ·
    refine K0<|Tr<|Ra Y<|Za<|?_
    obtain rfl := rt h
    exact Zp (ZK Y (.one<|rb Y))
   ·
    refine Zl<|K0<|Tr<|Ra Y<|Za<|?_
    obtain rfl := rt h
    exact Zp (ZK Y (.one<|rb Y))
theorem X3 {w : Int} {r : Int} (h : Xs w = some r) :
 CSpec Tryd.prog gl0 56 [.int .u16 w] (.int .i64 r) := by
 unfold Xs at h
 replace h := Qa h
 refine So Tryd.func56 Y fun w0 A=>Tr<|Ra Y<|Za<|Tr<|Rm Y<|R2 Zac Y<|Rq Y (Qm (ov Y) Zcq tI3 Y)<|Ra Y<|Za<|?_
 obtain rfl := rt h
 exact Zp (ZK Y (.one<|rb Y))
theorem Zcu {f : Vector Int 64} {r : Int} (h : XA f = some r) :
 CSpec Tryd.prog gl0 54 [.rp (List.map C42 f.toList) 0] (.int .i64 r) := by
 unfold XA at h
 replace h := Qa h
 refine So Tryd.func54 Y fun w0 A=>Tr<|Ra Y<|Za<|Zj<|Qn (cw := md0) (by kernel_rfl)<|D1 0 Zc Y<|D1 1 ZA Y<|bE h fun x h_x h=>Dq 2 Y (Qx (ov Y) (ov Y) JC h_x)<|Dq 3 Y (Zd (ov Y) Zau<|Qc<|QW (o := 0) (o' := ((Int.toNat 1) * 1)) (Zr arL)<|Q5 h_x)<|bE h fun y h_y h=>Dq 4 Y (Zq (X3 h_y)<|.cons (ov Y) (.b Y) .nil)<|D1 5 Zc Y<|D1 6 ZA Y<|bE h fun x2 h_x2 h=>Dq 7 Y (Qx (ov Y) (ov Y) JC h_x2)<|Dq 8 Y (Zd (ov Y) Zau<|Qc<|QW (o := 0) (o' := ((Int.toNat 2) * 1)) (Zr arL)<|Q5 h_x2)<|bE h fun y2 h_y2 h=>Dq 9 Y (Zq (X3 h_y2)<|.cons (ov Y) (.b Y) .nil)<|bE h fun q h_q h=>Dq 10 Y (ZcW (ov Y) (ov Y) h_q)<|D2 11 Zei Y<|D1 12 Qb Y<|Dd<|?_
 obtain rfl := rt h
 exact Zp (ZK Y (.one<|rb Y))
theorem Zea {x : Int} {r : Int} (h : Xz x = some r) :
 CSpec Tryd.prog gl0 78 [.int .u16 x] (.int .i64 r) := by
 unfold Xz at h
 replace h := Qa h
 refine So Tryd.func78 Y fun w0 A=>Tr<|Ra Y<|Za<|Zj<|Qn (cw := md0) (by kernel_rfl)<|D1 0 Zc Y<|bE h fun q h_q h=>Dq 1 Y (ZbF (ov Y) (ov Y) h_q)<|bE h fun b h_b h=>Dq 2 Y (ZhP (ov Y) (ov Y) Zko h_b)<|D1 3 Zc Y<|D2 4 Zac Y<|bE h fun b2 h_b2 h=>Dq 5 Y (ZhP (ov Y) (ov Y) Zko h_b2)<|D2 6 ZN Y<|Dq 7 Y (Qm (ov Y) tI5 tI3 Y)<|D1 8 Qb Y<|Dd<|?_
 obtain rfl := rt h
 exact Zp (ZK Y (.one<|rb Y))
theorem Zda {w : Int} {r : Bool} (h : Zbc w = some r) :
 CSpec Tryd.prog gl0 55 [.int .u16 w] (.bool r) := by
 unfold Zbc at h
 replace h := Qa h
 refine So Tryd.func55 Y fun w0 A=>Tr<|Ra Y<|Za<|Tr<|Rm Y<|R2 ZgJ Y<|Rm Y<|Rq Y (.guarded ((decide (w ≤ 4095)) == true) Y Y Y Y fun h => Zc<|ov Y)<|bE h fun y h_y h=>Rq Y (.guarded ((decide (w ≤ 4095)) == true) Y Y Y Y fun h => Zq (Zea<|gdT h_y h)<|.cons (ow Y h) (.b Y) .nil)<|bE h fun q h_q h=>Rq Y (.guarded ((decide (w ≤ 4095)) == true) Y Y Y Y fun h => JE (ow Y h) (ov Y)<|gdT h_q h)<|Rq Y (.guarded ((decide (w ≤ 4095)) == true) Y Y Y Y fun h => Zbt (ow Y h)<|ov Y)<|Rq Y (ZbQ (ov Y) fun hp=>ow Y<|gT hp)<|Ra Y<|Za<|?_
 obtain rfl := rt h
 exact Zp (ZK Y (.one<|rb Y))
theorem Zgy {f : Vector Int 64} {r : Int} (h : Zbr f = some r) :
 CSpec Tryd.prog gl0 57 [.rp (List.map C42 f.toList) 0] (.int .i64 r) := by
 unfold Zbr at h
 replace h := Qa h
 refine So Tryd.func57 Y fun w0 A=>Tr<|Ra Y<|Za<|K1 0 Y<|Tr<|Ra Y<|Za<|I1 (fun n=>⟨[(3, .int .i64 n)], []⟩) h (fun h=>?_) fun n h=>?_
 ·
  refine Tr<|Rm Y<|Za<|Zi<|?_
  obtain ⟨r1, hl1, ho1⟩ := Q2 h
  refine L2 (fun n2 i=>⟨[(0, .rp (List.map C42 f.toList) 0), (3, .int .i64 n2), (5, .int .i64 i)], []⟩) hl1 (ES []) fun n1 n2 i h=>?_
  unfold ZaS at h
  refine Tr<|R2 ZX Y<|Za<|Zj<|If h Y (fun h=>?_) fun h=>?_
  ·
   exact Zl<|Zj<|Zi<|K3 0 3 5 Y<|Tr<|Rm Y<|Ra Y<|Za<|K4 0 3 4 5 Y<|Zu<|Rm Y<|Rm Y<|Rm Y<|R2 ZN Y<|R1 ZA Y<|bE h fun x h_x h=>Rq Y (Qx (ov Y) (ov Y) JC h_x)<|Rq Y (Zd (ov Y) Zau<|Qc<|QW (o := 0) (o' := ((i64 (i + 1)).toNat * 1)) (Zr arL)<|Q5 h_x)<|bE h fun y h_y h=>Rq Y (Zq (X3 h_y)<|.cons (ov Y) (.b Y) .nil)<|R2 Zhz Y<|Ra Y<|Za<|K3 0 3 5 Y<|Zu<|R2 ZN Y<|Rm Y<|Za<|⟨_, h, ES []⟩
  ·
   refine ZI<|?_
   replace h := lx h ▸ ho1
   exact ⟨_, h, ES []⟩
 ·
  refine Tr<|Rm Y<|Ra Y<|Za<|?_
  obtain rfl := rt h
  exact Zp (ZK Y (.one<|rb Y))
theorem ZfE {f : Vector Int 64} {r : Int} (h : JH f = some r) :
 CSpec Tryd.prog gl0 58 [.rp (List.map C42 f.toList) 0] (.int .i64 r) := by
 unfold JH at h
 replace h := Qa h
 refine So Tryd.func58 Y fun w0 A=>Tr<|Ra Y<|Za<|K1 0 Y<|Tr<|Ra Y<|Za<|I1 (fun n=>⟨[(3, .int .i64 n)], []⟩) h (fun h=>?_) fun n h=>?_
 ·
  refine Tr<|Rm Y<|Za<|Zi<|?_
  obtain ⟨r1, hl1, ho1⟩ := Q2 h
  refine L2 (fun n2 i=>⟨[(0, .rp (List.map C42 f.toList) 0), (3, .int .i64 n2), (7, .int .i64 i)], []⟩) hl1 (ES []) fun n1 n2 i h=>?_
  unfold Jq at h
  refine Tr<|R2 ZX Y<|Za<|Zj<|If h Y (fun h=>?_) fun h=>?_
  ·
   refine Zl<|I1 (fun n3=>⟨[(0, .rp (List.map C42 f.toList) 0), (3, .int .i64 n3), (7, .int .i64 i)], []⟩) h (fun h=>?_) fun n3 h=>?_
   ·
    refine Zi<|K3 0 3 7 Y<|Tr<|Rm Y<|Ra Y<|Za<|K4 0 3 4 7 Y<|Tr<|Ra Y<|Za<|Zi<|?_
    obtain ⟨r2, hl2, ho2⟩ := Q2 h
    refine L2 (fun n4 k=>⟨[(0, .rp (List.map C42 f.toList) 0), (3, .int .i64 n4), (4, .int .i64 i), (5, .int .i64 k), (7, .int .i64 i)], []⟩) hl2 (ES []) fun n2 n4 k h=>?_
    unfold Ju at h
    refine Zj<|Tr<|Rm Y<|R2 ZgC Y<|Za<|K6 0 3 4 5 7 11 Y<|If h Y (fun h=>?_) fun h=>?_
    ·
     refine Zl<|Zj<|Zi<|K5 0 3 4 5 7 Y<|Tr<|Rm Y<|R2 Zac Y<|R2 XI Y<|Ra Y<|Za<|K6 0 3 4 5 6 7 Y<|Tr<|Rm Y<|bE h fun q h_q h=>Rq Y (ZcW (ov Y) (ov Y) h_q)<|R2 Zac Y<|Ra Y<|Za<|K6 0 3 4 5 6 7 Y<|Tr<|Rm Y<|Rm Y<|Rm Y<|R1 ZA Y<|bE h fun x h_x h=>Rq Y (Qx (ov Y) (ov Y) JC h_x)<|Rq Y (Zd (ov Y) Zau<|Qc<|QW (o := 0) (o' := (i.toNat * 1)) (Zr arL)<|Q5 h_x)<|Rm Y<|bE h fun q2 h_q2 h=>Rq Y (ZbF (ov Y) (ov Y) h_q2)<|R2 Zac Y<|R2 Zbt Y<|Rq Y (ZjT .neq (by simp) (ov Y) (ov Y) tB4)<|Za<|K6 0 3 4 5 7 30 Y<|If h Y (fun h=>?_) fun h=>?_
     ·
      exact K5 0 3 4 5 7 Y<|Zu<|Rm Y<|R2 Zhz Y<|Ra Y<|Za<|K5 0 3 4 5 7 Y<|Zu<|Rm Y<|R2 Zgh Y<|Ra Y<|Za<|⟨_, h, ES []⟩
     ·
      exact Zl<|K5 0 3 4 5 7 Y<|Zu<|Rm Y<|R2 Zgh Y<|Ra Y<|Za<|⟨_, h, ES []⟩
    ·
     refine ZI<|?_
     replace h := lx h ▸ ho2
     exact ⟨_, h, ES []⟩
   ·
    exact Zu<|R2 ZN Y<|Rm Y<|Za<|⟨_, h, ES []⟩
  ·
   refine ZI<|?_
   replace h := lx h ▸ ho1
   exact ⟨_, h, ES []⟩
 ·
  refine Tr<|Rm Y<|Ra Y<|Za<|?_
  obtain rfl := rt h
  exact Zp (ZK Y (.one<|rb Y))
theorem ZdI {f : Vector Int 64} {r : (List api_Flaw)} (h : Zah f = some r) :
 CSpec Tryd.prog gl0 34 [.agg (List.map C42 f.toList)] (.sl 114 (List.map R114 r)) := by
 unfold Zah at h
 replace h := Qa h
 refine So Tryd.func34 Y fun w0 A=>Tr<|Rq Y (ZcL (cva<|ov Y) arL tZ_44<|arD fun _ => Y)<|Ra Y<|Za<|K1 1 Y<|Tr<|Ra Y<|Za<|I1 (fun out=>⟨[(1, .rp (List.map C42 f.toList) 0), (3, .own 0 out.length)], [some ⟨114, List.map R114 out⟩]⟩) h (fun h=>?_) fun out h=>?_
 ·
  refine Tr<|Rq Y (QU (ov Y) XG (Qr<|Zr arL) arL)<|Rm Y<|Za<|Zi<|?_
  obtain ⟨r1, hl1, ho1⟩ := Q2 h
  refine L2 (fun out2 i=>⟨[(1, .rp (List.map C42 f.toList) 0), (3, .own 0 out2.length), (7, .agg (List.map C42 f.toList)), (8, .int .i64 i)], [some ⟨114, List.map R114 out2⟩]⟩) hl1 (ES [none]) fun n1 out2 i h=>?_
  unfold Zam at h
  refine Tr<|R2 ZX Y<|Za<|Zj<|If h Y (fun h=>?_) fun h=>?_
  ·
   refine Zl<|Zj<|Zi<|K4 1 3 7 8 Y<|Tr<|Rm Y<|bE h fun x h_x h=>Rq Y (Zho (ov Y) (ov Y) JC Zau h_x)<|Ra Y<|Ra Y<|Za<|K6 1 3 4 5 7 8 Y<|Tr<|Rm Y<|R2 Zcm Y<|Za<|K6 1 3 4 7 8 13 Y<|If h Y (fun h=>?_) fun h=>?_
   ·
    exact K5 1 3 4 7 8 Y<|Zu<|Rm Y<|Rm Y<|Rq Y (Xk (ys := [_, _]) ZgD Zgx Zif (.cons (cvs (ov Y)<|Zk Y)<|.cons (cvs (ov Y)<|Zk Y) .nil) Y)<|R_q (.sl 114<|List.map R114 ([(api_Flaw.mk i 5)] : List api_Flaw)) Y (XU ZfI (.cons (cva<|ov Y) Y (pwD Y) .nil) Y Y)<|bE h fun l h_l h=>Rx Y (QN (ov Y) (QR (ov Y) tZ_114) ZfI Y Y Y (fun _=>Zb Y) Y h_l)<|Ra Y<|Za<|K4 1 3 7 8 Y<|Zu<|R2 ZN Y<|Rm Y<|Za<|⟨_, h, ES [some 0]⟩
   ·
    exact Zl<|K4 1 3 7 8 Y<|Zu<|R2 ZN Y<|Rm Y<|Za<|⟨_, h, ES [some 0]⟩
  ·
   refine ZI<|?_
   replace h := lx h ▸ ho1
   exact ⟨_, h, ES [some 0]⟩
 ·
  refine Zj<|Tr<|Rm Y<|Rq Y (Zc8 (ov Y) Y Y ZfI)<|R2 Zcm Y<|Za<|K3 1 3 22 Y<|If h Y (fun h=>?_) fun h=>?_
  ·
   refine K1 3 Y<|Tr<|Rm Y<|Ra Y<|Za<|?_
   obtain rfl := rt h
   exact Zp (ZK Y (.one<|.tmp Y<|View.ownM Y Y D114))
  ·
   refine Zl<|I1 (fun out3=>⟨[(1, .rp (List.map C42 f.toList) 0), (3, .own 0 out3.length)], [some ⟨114, List.map R114 out3⟩]⟩) h (fun h=>?_) fun out3 h=>?_
   ·
    refine Zj<|K2 1 3 Y<|Qn (cw := md0) (by kernel_rfl)<|bE h fun x2 h_x2 h=>Dq 0 Y (Qx (ov Y) (ov Y) JC h_x2)<|Dq 1 Y (Zd (ov Y) Zau<|Qc<|QW (o := 0) (o' := ((Int.toNat 0) * 1)) (Zr arL)<|Q5 h_x2)<|bE h fun y h_y h=>Dq 2 Y (Zq (Zcu h_y)<|.cons (ov Y) (.b Y) .nil)<|bE h fun q h_q h=>Dq 3 Y (JE (ov Y) (ov Y) h_q)<|bE h fun x3 h_x3 h=>Dq 4 Y (Qx (og (v := gv_frame_syncs) (k := .u16) (f := C42) (by simp [gl0]) fun _=>Y) (ov Y) Zlj h_x3)<|Dq 5 Y (Zd (ov Y) Zau<|Qc<|QW (o := 0) (o' := (q.toNat * 1)) (Zr arL)<|Q5 h_x3)<|D2 6 XI Y<|Dd<|K3 1 3 30 Y<|If h Y (fun h=>?_) fun h=>?_
    ·
     exact K2 1 3 Y<|Zu<|Rm Y<|Rq Y (Xk (ys := [_, _]) ZgD Zgx Zif (.cons (cvs (ov Y)<|Zk Y)<|.cons (cvs (ov Y)<|Zk Y) .nil) Y)<|R_q (.sl 114<|List.map R114 ([(api_Flaw.mk 0 1)] : List api_Flaw)) Y (XU ZfI (.cons (cva<|ov Y) Y (pwD Y) .nil) Y Y)<|bE h fun l2 h_l2 h=>Rx Y (QN (ov Y) (QR (ov Y) tZ_114) ZfI Y Y Y (fun _=>Zb Y) Y h_l2)<|Ra Y<|Za<|⟨_, h, ES [some 0]⟩
    ·
     exact Zl<|⟨_, h, ES [some 0]⟩
   ·
    refine I1 (fun out4=>⟨[(1, .rp (List.map C42 f.toList) 0), (3, .own 0 out4.length)], [some ⟨114, List.map R114 out4⟩]⟩) h (fun h=>?_) fun out4 h=>?_
    ·
     refine Tr<|Ra Y<|Za<|Zi<|?_
     obtain ⟨r2, hl2, ho2⟩ := Q2 h
     refine L2 (fun out5 i2=>⟨[(1, .rp (List.map C42 f.toList) 0), (3, .own 0 out5.length), (6, .int .i64 i2)], [some ⟨114, List.map R114 out5⟩]⟩) hl2 (ES [some 0]) fun n2 out5 i2 h=>?_
     unfold Zao at h
     refine Zj<|Tr<|Rm Y<|R2 ZX Y<|Za<|K4 1 3 6 36 Y<|If h Y (fun h=>?_) fun h=>?_
     ·
      refine Zl<|Zj<|Zi<|K3 1 3 6 Y<|Tr<|Rm Y<|bE h fun x4 h_x4 h=>Rq Y (Qx (ov Y) (ov Y) JC h_x4)<|Rq Y (Zd (ov Y) Zau<|Qc<|QW (o := 0) (o' := (i2.toNat * 1)) (Zr arL)<|Q5 h_x4)<|bE h fun y2 h_y2 h=>Rq Y (Zq (Zda h_y2)<|.cons (ov Y) (.b Y) .nil)<|R1 Ji Y<|Za<|K4 1 3 6 43 Y<|If h Y (fun h=>?_) fun h=>?_
      ·
       exact K3 1 3 6 Y<|Zu<|Rm Y<|Rm Y<|Rq Y (Xk (ys := [_, _]) ZgD Zgx Zif (.cons (cvs (ov Y)<|Zk Y)<|.cons (cvs (ov Y)<|Zk Y) .nil) Y)<|R_q (.sl 114<|List.map R114 ([(api_Flaw.mk i2 2)] : List api_Flaw)) Y (XU ZfI (.cons (cva<|ov Y) Y (pwD Y) .nil) Y Y)<|bE h fun l3 h_l3 h=>Rx Y (QN (ov Y) (QR (ov Y) tZ_114) ZfI Y Y Y (fun _=>Zb Y) Y h_l3)<|Ra Y<|Za<|K3 1 3 6 Y<|Zu<|Rm Y<|R2 ZN Y<|Ra Y<|Za<|⟨_, h, ES [some 0]⟩
      ·
       exact Zl<|K3 1 3 6 Y<|Zu<|Rm Y<|R2 ZN Y<|Ra Y<|Za<|⟨_, h, ES [some 0]⟩
     ·
      refine ZI<|?_
      replace h := lx h ▸ ho2
      exact ⟨_, h, ES [some 0]⟩
    ·
     refine I1 (fun out6=>⟨[(1, .rp (List.map C42 f.toList) 0), (3, .own 0 out6.length)], [some ⟨114, List.map R114 out6⟩]⟩) h (fun h=>?_) fun out6 h=>?_
     ·
      refine Tr<|bE h fun x5 h_x5 h=>Rq Y (Qx (ov Y) (ov Y) JC h_x5)<|Rq Y (Zd (ov Y) Zau<|Qc<|QW (o := 0) (o' := ((Int.toNat 61) * 1)) (Zr arL)<|Q5 h_x5)<|bE h fun y3 h_y3 h=>Rq Y (Zq (X3 h_y3)<|.cons (ov Y) (.b Y) .nil)<|bE h fun y4 h_y4 h=>Rq Y (Zq (Zgy h_y4)<|.cons (ov Y) (.b Y) .nil)<|R2 XI Y<|Za<|K3 1 3 53 Y<|If h Y (fun h=>?_) fun h=>?_
      ·
       exact K2 1 3 Y<|Zu<|Rm Y<|Rq Y (Xk (ys := [_, _]) ZgD Zgx Zif (.cons (cvs (ov Y)<|Zk Y)<|.cons (cvs (ov Y)<|Zk Y) .nil) Y)<|R_q (.sl 114<|List.map R114 ([(api_Flaw.mk 61 3)] : List api_Flaw)) Y (XU ZfI (.cons (cva<|ov Y) Y (pwD Y) .nil) Y Y)<|bE h fun l4 h_l4 h=>Rx Y (QN (ov Y) (QR (ov Y) tZ_114) ZfI Y Y Y (fun _=>Zb Y) Y h_l4)<|Ra Y<|Za<|⟨_, h, ES [some 0]⟩
      ·
       exact Zl<|⟨_, h, ES [some 0]⟩
     ·
      refine Zj<|Zj<|Qn (cw := md0) (by kernel_rfl)<|bE h fun x6 h_x6 h=>Dq 0 Y (Qx (ov Y) (ov Y) JC h_x6)<|Dq 1 Y (Zd (ov Y) Zau<|Qc<|QW (o := 0) (o' := ((Int.toNat 62) * 1)) (Zr arL)<|Q5 h_x6)<|bE h fun y5 h_y5 h=>Dq 2 Y (Zq (X3 h_y5)<|.cons (ov Y) (.b Y) .nil)<|bE h fun q2 h_q2 h=>Dq 3 Y (ZcW (ov Y) (ov Y) h_q2)<|bE h fun x7 h_x7 h=>Dq 4 Y (Qx (ov Y) (ov Y) JC h_x7)<|Dq 5 Y (Zd (ov Y) Zau<|Qc<|QW (o := 0) (o' := ((Int.toNat 63) * 1)) (Zr arL)<|Q5 h_x7)<|bE h fun y6 h_y6 h=>Dq 6 Y (Zq (X3 h_y6)<|.cons (ov Y) (.b Y) .nil)<|D2 7 Zei Y<|bE h fun y7 h_y7 h=>Dq 8 Y (Zq (ZfE h_y7)<|.cons (ov Y) (.b Y) .nil)<|D2 9 XI Y<|Dd<|K2 3 67 Y<|If h Y (fun h=>?_) fun h=>?_
      ·
       refine K1 3 Y<|Zu<|Rm Y<|Rq Y (Xk (ys := [_, _]) ZgD Zgx Zif (.cons (cvs (ov Y)<|Zk Y)<|.cons (cvs (ov Y)<|Zk Y) .nil) Y)<|R_q (.sl 114<|List.map R114 ([(api_Flaw.mk 62 4)] : List api_Flaw)) Y (XU ZfI (.cons (cva<|ov Y) Y (pwD Y) .nil) Y Y)<|bE h fun l5 h_l5 h=>Rx Y (QN (ov Y) (QR (ov Y) tZ_114) ZfI Y Y Y (fun _=>Zb Y) Y h_l5)<|Ra Y<|Za<|K1 3 Y<|Tr<|Rm Y<|Ra Y<|Za<|?_
       obtain rfl := rt h
       exact Zp (ZK Y (.one<|.tmp Y<|View.ownM Y Y D114))
      ·
       refine Zl<|K1 3 Y<|Tr<|Rm Y<|Ra Y<|Za<|?_
       obtain rfl := rt h
       exact Zp (ZK Y (.one<|.tmp Y<|View.ownM Y Y D114))
theorem Zdg {f : Vector Int 64} {r : Int × Bool} (h : Jn f = some r) :
 CSpec Tryd.prog gl0 35 [.agg (List.map C42 f.toList)] (.tuple [.int .i64 r.1, .bool r.2]) := by
 unfold Jn at h
 replace h := Qa h
 refine So Tryd.func35 Y fun w0 A=>Tr<|Rq Y (ZcL (cva<|ov Y) arL tZ_44<|arD fun _ => Y)<|Ra Y<|Ra Y<|Za<|Zj<|K1 1 Y<|Tr<|bE h fun x h_x h=>Rq Y (Qx (ov Y) (ov Y) JC h_x)<|Rq Y (Zd (ov Y) Zau<|Qc<|QW (o := 0) (o' := ((Int.toNat 1) * 1)) (Zr arL)<|Q5 h_x)<|bE h fun y h_y h=>Rq Y (Zq (Zda h_y)<|.cons (ov Y) (.b Y) .nil)<|R1 Ji Y<|Rm Y<|bE h fun x2 h_x2 h=>Rq Y (.guarded ((!y) == false) Y Y Y Y fun h => Qx (ov Y) (ov Y) JC<|gdT h_x2 h)<|Rq Y (.guarded ((!y) == false) Y Y Y Y fun h => Zd (ow Y h) Zau<|Qc<|QW (o := 0) (o' := ((Int.toNat 2) * 1)) (Zr arL)<|Q5<|gdT h_x2 h)<|bE h fun y2 h_y2 h=>Rq Y (.guarded ((!y) == false) Y Y Y Y fun h => Zq (Zda<|gdT h_y2 h)<|.cons (ow Y h) (.b Y) .nil)<|Rq Y (.guarded ((!y) == false) Y Y Y Y fun h => Ji<|ow Y h)<|Rq Y (Zev (ov Y) fun hp=>ow Y<|gF hp)<|Za<|K2 1 13 Y<|If h Y (fun h=>?_) fun h=>?_
 ·
  refine K0<|Tr<|Ra Y<|Ra Y<|Za<|?_
  obtain rfl := rt h
  exact Zp (ZK Y (.two (rb Y)<|rb Y))
 ·
  refine Zl<|K1 1 Y<|Tr<|bE h fun y3 h_y3 h=>Rq Y (Zq (Zcu h_y3)<|.cons (ov Y) (.b Y) .nil)<|Ra Y<|Ra Y<|Za<|?_
  obtain rfl := rt h
  exact Zp (ZK Y (.two (rb Y)<|rb Y))
theorem JD {b : ring_bank} {k : Int} {r : Bool} (h : QC b k = some r) :
 CSpec Tryd.prog gl0 59 [.rp [.sl 60 (List.map R60 b.memories), .sl 83 (List.map R83 b.spots)] 0, .int .i64 k] (.bool r) := by
 unfold QC at h
 replace h := Qa h
 refine So Tryd.func59 Y fun w0 A=>Tr<|Ra Y<|Za<|Zj<|Qn (cw := md0) (by kernel_rfl)<|D1 0 Zc Y<|D1 1 ZA Y<|Dq 2 Y (ZP (ov Y) Zey)<|Dq 3 Y (Zd (ov Y) Zix Y)<|D1 4 Zc Y<|bE h fun x h_x h=>Dq 5 Y (Z5 (ov Y) (ov Y) Ziv h_x)<|Dq 6 Y (ZP (ov Y) ZfJ)<|Dq 7 Y (Zd (ov Y) tS3 Y)<|D2 8 ZX Y<|D1 9 Zc Y<|Dq 10 Y (.guarded ((decide (x.sector < 0)) == false) Y Y Y Y fun h => Zc<|ov Y)<|Dq 11 Y (.guarded ((decide (x.sector < 0)) == false) Y Y Y Y fun h => ZA<|ow Y h)<|Dq 12 Y (.guarded ((decide (x.sector < 0)) == false) Y Y Y Y fun h => ZP (ow Y h) Zey)<|Dq 13 Y (.guarded ((decide (x.sector < 0)) == false) Y Y Y Y fun h => Zd (ow Y h) Zix Y)<|Dq 14 Y (.guarded ((decide (x.sector < 0)) == false) Y Y Y Y fun h => Zc<|ov Y)<|bE h fun x2 h_x2 h=>Dq 15 Y (.guarded ((decide (x.sector < 0)) == false) Y Y Y Y fun h => Z5 (ow Y h) (ow Y h) Ziv<|gdT h_x2 h)<|Dq 16 Y (.guarded ((decide (x.sector < 0)) == false) Y Y Y Y fun h => ZP (ow Y h) ZgF)<|Dq 17 Y (.guarded ((decide (x.sector < 0)) == false) Y Y Y Y fun h => Zd (ow Y h) tS3 Y)<|Dq 18 Y (.guarded ((decide (x.sector < 0)) == false) Y Y Y Y fun h => Zc<|ov Y)<|Dq 19 Y (.guarded ((decide (x.sector < 0)) == false) Y Y Y Y fun h => ZA<|ow Y h)<|Dq 20 Y (.guarded ((decide (x.sector < 0)) == false) Y Y Y Y fun h => ZP (ow Y h) ZcZ)<|Dq 21 Y (.guarded ((decide (x.sector < 0)) == false) Y Y Y Y fun h => Zd (ow Y h) ZhI Y)<|Dq 22 Y (.guarded ((decide (x.sector < 0)) == false) Y Y Y Y fun h => Zc<|ov Y)<|bE h fun x3 h_x3 h=>Dq 23 Y (.guarded ((decide (x.sector < 0)) == false) Y Y Y Y fun h => Z5 (ow Y h) (ow Y h) Zcj<|gdT h_x3 h)<|Dq 24 Y (.guarded ((decide (x.sector < 0)) == false) Y Y Y Y fun h => ZP (ow Y h) ZgS)<|Dq 25 Y (.guarded ((decide (x.sector < 0)) == false) Y Y Y Y fun h => Zd (ow Y h) tS3 Y)<|Dq 26 Y (.guarded ((decide (x.sector < 0)) == false) Y Y Y Y fun h => Zbt (ow Y h)<|ow Y h)<|Dq 27 Y (Zev (ov Y) fun hp=>ow Y<|gF hp)<|D1 28 Qb Y<|Dd<|?_
 obtain rfl := rt h
 exact Zp (ZK Y (.one<|rb Y))
theorem Zan {b : ring_bank} {k : Int} {r : Int} (h : Q0 b k = some r) :
 CSpec Tryd.prog gl0 60 [.rp [.sl 60 (List.map R60 b.memories), .sl 83 (List.map R83 b.spots)] 0, .int .i64 k] (.int .i64 r) := by
 unfold Q0 at h
 replace h := Qa h
 refine So Tryd.func60 Y fun w0 A=>Tr<|Ra Y<|Za<|K2 0 1 Y<|Tr<|Rm Y<|R1 ZA Y<|Rq Y (ZP (ov Y) ZcZ)<|Rq Y (Zd (ov Y) ZhI Y)<|Rm Y<|bE h fun x h_x h=>Rq Y (Z5 (ov Y) (ov Y) Zcj h_x)<|Rq Y (QU (ov Y) XT Y Y)<|Rx Y (ZV (row := [_, _, _, _, _]) 0 Y ZcM Y tZ_60)<|Rx Y (Zh (ov Y) (ov Y) (Zw XT Y) Y Y Y (Nat.le_of_ble_eq_true Y) (Zb Y) Y)<|Za<|K3 0 1 5 Y<|Tr<|Rq Y (Zg (ov Y) Y Y ZE)<|Rq Y (Zs (ov Y) Y Y Y Z4 Y)<|Rl tZ_29 ZU Y<|Ra Y<|Za<|J0 (fun j => (.inr j)) ⟨[], []⟩ h (fun h=>?_) fun h=>?_
 ·
  refine K4 0 1 5 6 Y<|Tr<|Rm Y<|Rm Y<|Za<|Zi<|?_
  obtain ⟨r1, hl1, ho1⟩ := Q2 h
  refine L1 (fun i=>⟨[(0, .rp [.sl 60 (List.map R60 b.memories), .sl 83 (List.map R83 b.spots)] 0), (1, .int .i64 k), (5, .ptr 0 1 0 0), (6, .int .i64 (x.Sectors.length : Int)), (19, .int .i64 (x.Sectors.length : Int)), (20, .int .i64 i)], [some ⟨60, [[.int .i64 x.Slots, .int .i64 x.Limit, .sl 29 (List.map R29 x.Sectors), .sl 3 (List.map R3 x.Wear), .sl 4 (List.map R4 x.Bad)]]⟩]⟩) hl1 (ES [some 0]) fun n1 i h=>?_
  unfold X9 at h
  refine Tr<|R2 ZX Y<|Za<|Zj<|If h Y (fun h=>?_) fun h=>?_
  ·
   refine Zl<|Zj<|Zi<|K6 0 1 5 6 19 20 Y<|Tr<|Rm Y<|Ra Y<|Za<|K7 0 1 5 6 7 19 20 Y<|Tr<|Rm Y<|R1 ZA Y<|Rq Y (ZP (ov Y) Zey)<|Rq Y (Zd (ov Y) Zix Y)<|Rm Y<|bE h fun x2 h_x2 h=>Rq Y (Z5 (ov Y) (ov Y) Ziv h_x2)<|Rq Y (ZP (ov Y) ZfJ)<|Rq Y (Zd (ov Y) tS3 Y)<|R2 ZN Y<|Rm Y<|R2 ZN Y<|Rm Y<|bE h fun q h_q h=>Rq Y (JE (ov Y) (ov Y) h_q)<|Ra Y<|Za<|Zj<|K7 0 1 5 6 8 19 20 Y<|Qn (cw := md0) (by kernel_rfl)<|Dq 0 Y (Zg (ov Y) Y Y Zfr)<|Dq 1 Y (Zs (ov Y) Y Y Y Zip Y)<|D1 2 Zc Y<|bE h fun x3 h_x3 h=>Dq 3 Y (Z5 (ov Y) (ov Y) ZgZ h_x3)<|Dq 4 Y (Zd (ov Y) tS4 Y)<|D1 5 Ji Y<|D1 6 Zc Y<|Dq 7 Y (.guarded ((!x3) == true) Y Y Y Y fun h => Zg (ov Y) Y Y ZeH)<|Dq 8 Y (.guarded ((!x3) == true) Y Y Y Y fun h => Zs (ow Y h) Y Y Y Zis Y)<|Dq 9 Y (.guarded ((!x3) == true) Y Y Y Y fun h => Zc<|ov Y)<|bE h fun x4 h_x4 h=>Dq 10 Y (.guarded ((!x3) == true) Y Y Y Y fun h => Z5 (ow Y h) (ow Y h) Xt<|gdT h_x4 h)<|Dq 11 Y (.guarded ((!x3) == true) Y Y Y Y fun h => Zd (ow Y h) tS3 Y)<|Dq 12 Y (.guarded ((!x3) == true) Y Y Y Y fun h => Zg (ov Y) Y Y ZiD)<|Dq 13 Y (.guarded ((!x3) == true) Y Y Y Y fun h => Zs (ow Y h) Y Y Y tS3 Y)<|Dq 14 Y (.guarded ((!x3) == true) Y Y Y Y fun h => ZX (ow Y h)<|ow Y h)<|Dq 15 Y (ZbQ (ov Y) fun hp=>ow Y<|gT hp)<|Dd<|K8 0 1 5 6 8 19 20 51 Y<|If h Y (fun h=>?_) fun h=>?_
   ·
    refine K1 8 Y<|Tr<|Rm Y<|Ra Y<|Za<|?_
    replace h := lx h ▸ ho1
    obtain rfl := rt h
    exact Zp (ZK Y (.one<|rb Y))
   ·
    exact Zl<|K6 0 1 5 6 19 20 Y<|Zu<|R2 ZN Y<|Rm Y<|Za<|⟨_, h, ES [some 0]⟩
  ·
   refine ZI<|?_
   replace h := lx h ▸ ho1
   exact ⟨(), h, ES []⟩
 ·
  replace h := elr h
  replace h := t0i h
  refine Tr<|Ra Y<|Za<|?_
  obtain rfl := rt h
  exact Zp (ZK Y (.one<|rb Y))
theorem Za1 {b : ring_bank} {k : Int} {sector : Int} {r : Int} (h : QD b k sector = some r) :
 CSpec Tryd.prog gl0 61 [.rp [.sl 60 (List.map R60 b.memories), .sl 83 (List.map R83 b.spots)] 0, .int .i64 k, .int .i64 sector] (.int .i64 r) := by
 unfold QD at h
 replace h := Qa h
 refine So Tryd.func61 Y fun w0 A=>Tr<|Ra Y<|Za<|K3 0 1 2 Y<|Tr<|Ra Y<|Za<|I1 (fun most=>⟨[(7, .int .i64 most)], []⟩) h (fun h=>?_) fun most h=>?_
 ·
  refine Tr<|Rm Y<|R1 ZA Y<|Rq Y (ZP (ov Y) ZcZ)<|Rq Y (Zd (ov Y) ZhI Y)<|Rm Y<|bE h fun x h_x h=>Rq Y (Z5 (ov Y) (ov Y) Zcj h_x)<|Rq Y (ZP (ov Y) ZE)<|Rq Y (Zd (ov Y) Z4 Y)<|Rl tZ_29 ZU Y<|Rm Y<|Za<|Zi<|?_
  obtain ⟨r1, hl1, ho1⟩ := Q2 h
  refine L2 (fun most2 i=>⟨[(2, .int .i64 sector), (7, .int .i64 most2), (20, .sl 29 (List.map R29 x.Sectors)), (21, .int .i64 (x.Sectors.length : Int)), (22, .int .i64 i)], []⟩) hl1 (ES []) fun n1 most2 i h=>?_
  unfold Q6 at h
  refine Tr<|R2 ZX Y<|Za<|Zj<|If h Y (fun h=>?_) fun h=>?_
  ·
   refine Zl<|Zj<|Zi<|K5 2 7 20 21 22 Y<|Tr<|Rm Y<|bE h fun x2 h_x2 h=>Rq Y (Z5 (ov Y) (ov Y) ZU h_x2)<|Rq Y (Zd (ov Y) Zf5 Y)<|Ra Y<|Ra Y<|Za<|K7 2 7 8 9 20 21 22 Y<|Tr<|Rm Y<|bE h fun y h_y h=>Rq Y (Zq (ZaB h_y)<|.cons (ov Y) (.b Y) .nil)<|Rm Y<|Rq Y (Zn (ov Y) Y)<|Rq Y (Zn (ov Y) Y)<|Rq Y (Zn (ov Y) Y)<|Ra Y<|Ra Y<|Ra Y<|Za<|K8 2 7 8 10 12 20 21 22 Y<|Tr<|Rm Y<|Rm Y<|Rq Y (.guarded (y.2.2 == true) Y Y Y Y fun h => Zc<|ov Y)<|Rq Y (.guarded (y.2.2 == true) Y Y Y Y fun h => Zc<|ov Y)<|Rq Y (.guarded (y.2.2 == true) Y Y Y Y fun h => XI (ow Y h)<|ow Y h)<|Rq Y (ZbQ (ov Y) fun hp=>ow Y<|gT hp)<|Za<|K7 2 7 10 20 21 22 38 Y<|If h Y (fun h=>?_) fun h=>?_
   ·
    exact K6 2 7 10 20 21 22 Y<|Zu<|Rm Y<|Rm Y<|Rq Y (ZjS (ov Y) (ov Y) Y)<|Ra Y<|Za<|K5 2 7 20 21 22 Y<|Zu<|R2 ZN Y<|Rm Y<|Za<|⟨_, h, ES []⟩
   ·
    exact Zl<|K5 2 7 20 21 22 Y<|Zu<|R2 ZN Y<|Rm Y<|Za<|⟨_, h, ES []⟩
  ·
   refine ZI<|?_
   replace h := lx h ▸ ho1
   exact ⟨_, h, ES []⟩
 ·
  refine Tr<|Rm Y<|R2 ZN Y<|Ra Y<|Za<|?_
  obtain rfl := rt h
  exact Zp (ZK Y (.one<|rb Y))
theorem ZeE {b : ring_bank} {l : List Int} {r : Int} (h : XY b l = some r) :
 CSpec Tryd.prog gl0 36 [.rp [.sl 60 (List.map R60 b.memories), .sl 83 (List.map R83 b.spots)] 0, .sl 3 (List.map R3 l)] (.int .i64 r) := by
 unfold XY at h
 replace h := Qa h
 refine So Tryd.func36 Y fun w0 A=>Tr<|Ra Y<|Za<|J0 (fun j => (.inr j)) ⟨[(0, .rp [.sl 60 (List.map R60 b.memories), .sl 83 (List.map R83 b.spots)] 0), (1, .sl 3 (List.map R3 l))], []⟩ h (fun h=>?_) fun h=>?_
 ·
  refine K2 0 1 Y<|Tr<|Rm Y<|Rl tZ_3 Xt Y<|Rm Y<|Za<|Zi<|?_
  obtain ⟨r1, hl1, ho1⟩ := Q2 h
  refine L1 (fun i=>⟨[(0, .rp [.sl 60 (List.map R60 b.memories), .sl 83 (List.map R83 b.spots)] 0), (1, .sl 3 (List.map R3 l)), (9, .sl 3 (List.map R3 l)), (10, .int .i64 (l.length : Int)), (11, .int .i64 i)], []⟩) hl1 (ES []) fun n1 i h=>?_
  unfold XK at h
  refine Tr<|R2 ZX Y<|Za<|Zj<|If h Y (fun h=>?_) fun h=>?_
  ·
   refine Zl<|Zj<|Zi<|K5 0 1 9 10 11 Y<|Tr<|bE h fun x h_x h=>Rq Y (Z5 (ov Y) (ov Y) Xt h_x)<|Rq Y (Zd (ov Y) tS3 Y)<|Ra Y<|Za<|K6 0 1 6 9 10 11 Y<|Tr<|Rm Y<|Rm Y<|bE h fun y h_y h=>Rq Y (Zq (JD h_y)<|.cons (ov Y) (.b Y)<|.cons (ov Y) (.b Y) .nil)<|Rm Y<|Rq Y (.guarded (y == true) Y Y Y Y fun h => Zc<|ov Y)<|Rq Y (.guarded (y == true) Y Y Y Y fun h => Zc<|ov Y)<|bE h fun y2 h_y2 h=>Rq Y (.guarded (y == true) Y Y Y Y fun h => Zq (Zan<|gdT h_y2 h)<|.cons (ow Y h) (.b Y)<|.cons (ow Y h) (.b Y) .nil)<|Rq Y (.guarded (y == true) Y Y Y Y fun h => ZX (ow Y h)<|ov Y)<|Rq Y (ZbQ (ov Y) fun hp=>ow Y<|gT hp)<|Za<|K6 0 1 9 10 11 23 Y<|If h Y (fun h=>?_) fun h=>?_
   ·
    refine K0<|Tr<|Ra Y<|Za<|?_
    replace h := lx h ▸ ho1
    obtain rfl := rt h
    exact Zp (ZK Y (.one<|rb Y))
   ·
    exact Zl<|K5 0 1 9 10 11 Y<|Zu<|R2 ZN Y<|Rm Y<|Za<|⟨_, h, ES []⟩
  ·
   refine ZI<|?_
   replace h := lx h ▸ ho1
   exact ⟨(), h, ES []⟩
 ·
  replace h := elr h
  replace h := t0i h
  refine J0 (fun j => (.inr j)) ⟨[], []⟩ h (fun h=>?_) fun h=>?_
  ·
   refine Tr<|Rm Y<|Rl tZ_3 Xt Y<|Rm Y<|Za<|Zi<|?_
   obtain ⟨r2, hl2, ho2⟩ := Q2 h
   refine L1 (fun i2=>⟨[(0, .rp [.sl 60 (List.map R60 b.memories), .sl 83 (List.map R83 b.spots)] 0), (25, .sl 3 (List.map R3 l)), (26, .int .i64 (l.length : Int)), (27, .int .i64 i2)], []⟩) hl2 (ES []) fun n2 i2 h=>?_
   unfold XL at h
   refine Tr<|R2 ZX Y<|Za<|Zj<|If h Y (fun h=>?_) fun h=>?_
   ·
    refine Zl<|Zj<|Zi<|K4 0 25 26 27 Y<|Tr<|bE h fun x2 h_x2 h=>Rq Y (Z5 (ov Y) (ov Y) Xt h_x2)<|Rq Y (Zd (ov Y) tS3 Y)<|Ra Y<|Za<|K5 0 8 25 26 27 Y<|Tr<|Rm Y<|Rm Y<|bE h fun y3 h_y3 h=>Rq Y (Zq (JD h_y3)<|.cons (ov Y) (.b Y)<|.cons (ov Y) (.b Y) .nil)<|Rm Y<|Rq Y (.guarded (y3 == true) Y Y Y Y fun h => Zc<|ov Y)<|Rq Y (.guarded (y3 == true) Y Y Y Y fun h => Zc<|ov Y)<|Rq Y (.guarded (y3 == true) Y Y Y Y fun h => Zc<|ov Y)<|Rq Y (.guarded (y3 == true) Y Y Y Y fun h => Zc<|ov Y)<|bE h fun y4 h_y4 h=>Rq Y (.guarded (y3 == true) Y Y Y Y fun h => Zq (Zan<|gdT h_y4 h)<|.cons (ow Y h) (.b Y)<|.cons (ow Y h) (.b Y) .nil)<|bE h fun y5 h_y5 h=>Rq Y (.guarded (y3 == true) Y Y Y Y fun h => Zq (Za1<|gdT h_y5 h)<|.cons (ow Y h) (.b Y)<|.cons (ow Y h) (.b Y)<|.cons (ow Y h) (.b Y) .nil)<|Rq Y (.guarded (y3 == true) Y Y Y Y fun h => Zcm (ow Y h)<|ov Y)<|Rq Y (ZbQ (ov Y) fun hp=>ow Y<|gT hp)<|Za<|K5 0 25 26 27 42 Y<|If h Y (fun h=>?_) fun h=>?_
    ·
     refine K0<|Tr<|Ra Y<|Za<|?_
     replace h := lx h ▸ ho2
     obtain rfl := rt h
     exact Zp (ZK Y (.one<|rb Y))
    ·
     exact Zl<|K4 0 25 26 27 Y<|Zu<|R2 ZN Y<|Rm Y<|Za<|⟨_, h, ES []⟩
   ·
    refine ZI<|?_
    replace h := lx h ▸ ho2
    exact ⟨(), h, ES []⟩
  ·
   replace h := elr h
   replace h := t0i h
   refine Tr<|Ra Y<|Za<|?_
   obtain rfl := rt h
   exact Zp (ZK Y (.one<|rb Y))
theorem Zha {f : Vector Int 64} {r : Bool} (h : Zb6 f = some r) :
 CSpec Tryd.prog gl0 62 [.rp (List.map C42 f.toList) 0] (.bool r) := by
 unfold Zb6 at h
 replace h := Qa h
 refine So Tryd.func62 Y fun w0 A=>Tr<|Ra Y<|Za<|J0 (fun j => (.inr j)) ⟨[], []⟩ h (fun h=>?_) fun h=>?_
 ·
  refine K1 0 Y<|Tr<|Rm Y<|Za<|Zi<|?_
  obtain ⟨r1, hl1, ho1⟩ := Q2 h
  refine L1 (fun i=>⟨[(0, .rp (List.map C42 f.toList) 0), (4, .int .i64 i)], []⟩) hl1 (ES []) fun n1 i h=>?_
  unfold Zbk at h
  refine Tr<|R2 ZX Y<|Za<|Zj<|If h Y (fun h=>?_) fun h=>?_
  ·
   refine Zl<|Zj<|Zi<|K2 0 4 Y<|Tr<|Rm Y<|Ra Y<|Za<|K3 0 3 4 Y<|Tr<|Rm Y<|Rm Y<|R1 ZA Y<|bE h fun x h_x h=>Rq Y (Qx (ov Y) (ov Y) JC h_x)<|Rq Y (Zd (ov Y) Zau<|Qc<|QW (o := 0) (o' := (i.toNat * 1)) (Zr arL)<|Q5 h_x)<|R2 Zcm Y<|Za<|K3 0 4 12 Y<|If h Y (fun h=>?_) fun h=>?_
   ·
    refine K0<|Tr<|Ra Y<|Za<|?_
    replace h := lx h ▸ ho1
    obtain rfl := rt h
    exact Zp (ZK Y (.one<|rb Y))
   ·
    exact Zl<|K2 0 4 Y<|Zu<|R2 ZN Y<|Rm Y<|Za<|⟨_, h, ES []⟩
  ·
   refine ZI<|?_
   replace h := lx h ▸ ho1
   exact ⟨(), h, ES []⟩
 ·
  replace h := elr h
  replace h := t0i h
  refine Tr<|Ra Y<|Za<|?_
  obtain rfl := rt h
  exact Zp (ZK Y (.one<|rb Y))
theorem ZdC {p : Vector Int 96} {i : Int} {w : Int} {r : (Vector Int 96)} (h : XZ p i w = some r) :
 GSpec Tryd.prog gl0 79 [.ptr 0 1 0 0, .int .i64 i, .int .u16 w] [some ⟨109, [(List.map C5 p.toList)]⟩] (.tuple []) [some ⟨109, [(List.map C5 r.toList)]⟩] := by
 unfold XZ at h
 replace h := Qa h
 refine Qt (by kernel_rfl) Tryd.func79 Y Y<|?_
 intro w0 A W φ0
 refine Tr<|Rm Y<|bE h fun q h_q h=>Rq Y (ZeB (ov Y) (ov Y) h_q)<|R2 Zfo Y<|Ra Y<|Za<|Zj<|K4 0 1 2 6 Y<|Tr<|Rm Y<|bE h fun q2 h_q2 h=>Rq Y (JE (ov Y) (ov Y) h_q2)<|R2 Zbt Y<|Za<|K4 0 2 6 12 Y<|If h Y (fun h=>?_) fun h=>?_
 ·
  refine Zj<|K3 0 2 6 Y<|Qn (cw := ⟨false, false, [], [20, 24], []⟩) (by kernel_rfl)<|D1 0 Zc Y<|D1 1 Zc Y<|D1 5 Zc Y<|bE h fun q3 h_q3 h=>Dq 6 Y (ZbF (ov Y) (ov Y) h_q3)<|Dq 7 Y (Qm (ov Y) Zcq tI5 Y)<|D1 12 Zc Y<|D1 13 Zc Y<|D2 14 ZN Y<|Dq 15 Y (Zt (ov Y) Y Y)<|bE h fun x h_x h=>Dq 16 Y (X4 (ov Y) (ov Y) Zcv Y Y h_x)<|Dq 17 Y (Zs (ov Y) Y Y Y tS5<|Qc<|QW (o := 0) (o' := ((i64 ((i64 (q * 3)) + 1)).toNat * 1)) (Zr arL)<|Q5 h_x)<|Dq 20 Y (Zt (ov Y) Y Y)<|bE h fun x2 h_x2 h=>Dq 21 Y (X4 (ov Y) (ov Y) Zcv Y Y h_x2)<|ZY 2 _ Y (by kernel_rfl) Y Y (fun hp'=>Zc<|ov Y)<|ZY 3 _ Y (by kernel_rfl) Y Y (fun hp'=>Zc<|ov Y)<|ZY 4 _ Y (by kernel_rfl) Y Y (fun hp'=>Zil (ov Y) (ov Y) Y)<|ZY 8 _ Y (by kernel_rfl) Y Y (fun hp'=>Zc<|ov Y)<|ZY 9 _ Y (by kernel_rfl) Y Y (fun hp'=>Zac (ov Y)<|ov Y)<|bE h fun q4 h_q4 h=>ZY 10 _ Y (by kernel_rfl) Y Y (fun hp'=>ZcW (ov Y) (ov Y) h_q4)<|ZY 11 _ Y (by kernel_rfl) Y Y (fun hp'=>Qm (ov Y) Zcq tI5 Y)<|ZY 18 _ Y (by kernel_rfl) Y Y (fun hp'=>Zac (ov Y)<|ov Y)<|ZY 19 _ Y (by kernel_rfl) Y Y (fun hp'=>Zei (ov Y)<|ov Y)<|Dw 23 22 Y (Zt (ov Y) Y Y) (Zh (ov Y) (ov Y) (Ze tS5) Y Y Y (arB h_x2) (Zb Y)<|arS h_x2) ?_ ?_
  ·
   refine Do 22 Y (Zh (ov Y) (ov Y) (Ze tS5) Y Y Y (arB h_x2) (Zb Y)<|arS h_x2)<|bE h fun x3 h_x3 h=>Dq 24 Y (X4 (ov Y) (ov Y) Zcv Y Y h_x3)<|Do 25 Y (Zh (ov Y) (ov Y) (Ze tS5) Y Y Y (arB h_x3) (Zb Y)<|arS h_x3)<|Dd<|?_
   obtain rfl := rt h
   exact Zp<|JJ [some 0] Y .nil (.cons Y (ro1 (by exact Eq.trans (b := 96) arL tZ_109.symm)<|rld<|arD fun _ => Y) .nil) Y Y<|Xc rln
  ·
   refine Dq 23 Y (Zt (ov Y) Y Y)<|bE h fun x3 h_x3 h=>Dq 24 Y (X4 (ov Y) (ov Y) Zcv Y Y h_x3)<|Do 25 Y (Zh (ov Y) (ov Y) (Ze tS5) Y Y Y (arB h_x3) (Zb Y)<|arS h_x3)<|Dd<|?_
   obtain rfl := rt h
   exact Zp<|JJ [some 0] Y .nil (.cons Y (ro1 (by exact Eq.trans (b := 96) arL tZ_109.symm)<|rld<|arD fun _ => Y) .nil) Y Y<|Xc rln
 ·
  refine Zl<|K3 0 2 6 Y<|Qn (cw := ⟨false, false, [], [52, 55], []⟩) (by kernel_rfl)<|D1 0 Zc Y<|D1 1 Zc Y<|D2 2 ZN Y<|D1 6 Zc Y<|D1 7 Zc Y<|D2 8 ZN Y<|Dq 9 Y (Zt (ov Y) Y Y)<|bE h fun x4 h_x4 h=>Dq 10 Y (X4 (ov Y) (ov Y) Zcv Y Y h_x4)<|Dq 11 Y (Zs (ov Y) Y Y Y tS5<|Qc<|QW (o := 0) (o' := ((i64 ((i64 (q * 3)) + 1)).toNat * 1)) (Zr arL)<|Q5 h_x4)<|D2 12 Zac Y<|D1 13 Zc Y<|bE h fun q5 h_q5 h=>Dq 14 Y (ZbF (ov Y) (ov Y) h_q5)<|Dq 15 Y (Qm (ov Y) Zcq tI5 Y)<|D2 16 Zei Y<|Dq 19 Y (Zt (ov Y) Y Y)<|bE h fun x5 h_x5 h=>Dq 20 Y (X4 (ov Y) (ov Y) Zcv Y Y h_x5)<|ZY 3 _ Y (by kernel_rfl) Y Y (fun hp'=>Zc<|ov Y)<|ZY 4 _ Y (by kernel_rfl) Y Y (fun hp'=>Zc<|ov Y)<|ZY 5 _ Y (by kernel_rfl) Y Y (fun hp'=>Zil (ov Y) (ov Y) Y)<|ZY 17 _ Y (by kernel_rfl) Y Y (fun hp'=>Zc<|ov Y)<|ZY 18 _ Y (by kernel_rfl) Y Y (fun hp'=>Qm (ov Y) Zcq tI5 Y)<|Dw 22 21 Y (Zt (ov Y) Y Y) (Zh (ov Y) (ov Y) (Ze tS5) Y Y Y (arB h_x5) (Zb Y)<|arS h_x5) ?_ ?_
  ·
   refine Do 21 Y (Zh (ov Y) (ov Y) (Ze tS5) Y Y Y (arB h_x5) (Zb Y)<|arS h_x5)<|bE h fun x6 h_x6 h=>Dq 23 Y (X4 (ov Y) (ov Y) Zcv Y Y h_x6)<|Do 24 Y (Zh (ov Y) (ov Y) (Ze tS5) Y Y Y (arB h_x6) (Zb Y)<|arS h_x6)<|Dd<|?_
   obtain rfl := rt h
   exact Zhn [some 0] Y .nil (.cons Y (ro1 (by exact Eq.trans (b := 96) arL tZ_109.symm)<|rld<|arD fun _ => Y) .nil) Y Y<|Xc rln
  ·
   refine Dq 22 Y (Zt (ov Y) Y Y)<|bE h fun x6 h_x6 h=>Dq 23 Y (X4 (ov Y) (ov Y) Zcv Y Y h_x6)<|Do 24 Y (Zh (ov Y) (ov Y) (Ze tS5) Y Y Y (arB h_x6) (Zb Y)<|arS h_x6)<|Dd<|?_
   obtain rfl := rt h
   exact Zhn [some 0] Y .nil (.cons Y (ro1 (by exact Eq.trans (b := 96) arL tZ_109.symm)<|rld<|arD fun _ => Y) .nil) Y Y<|Xc rln
end Go.Proofs.YtnlmjeleocelgaaDoor
