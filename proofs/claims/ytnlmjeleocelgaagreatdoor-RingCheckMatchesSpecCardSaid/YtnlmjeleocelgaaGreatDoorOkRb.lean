/- A text of the proof: a verified executor of the program form, or the contracts of the functions that the law reaches. -/
import Derived.Test.YtnlmjeleocelgaaGreatDoorOkRa
set_option linter.all false
namespace Go.Proofs.YtnlmjeleocelgaaGreatDoor
open Go Go.Vx
set_option maxRecDepth 10000
set_option maxHeartbeats 1000000
set_option linter.unusedVariables false
theorem Zhe {m : api_Memory} {sector : Int} {r : api_Memory × Int} (h : ZdO m sector = some r) :
 GSpec Tryz.prog gl0 45 [.agg [.int .i64 m.Slots, .int .i64 m.Limit, .sl 49 (List.map R49 m.Sectors), .sl 3 (List.map R3 m.Wear), .sl 4 (List.map R4 m.Bad)], .int .i64 sector] [] (.tuple [.agg [.int .i64 r.1.Slots, .int .i64 r.1.Limit, .own 0 r.1.Sectors.length, .own 1 r.1.Wear.length, .own 2 r.1.Bad.length], .int .i64 r.2]) [some ⟨49, List.map O49 r.1.Sectors⟩, some ⟨3, List.map R3 r.1.Wear⟩, some ⟨4, List.map R4 r.1.Bad⟩] := by
 unfold ZdO at h
 replace h := Qm h
 refine QF (by kernel_rfl) Tryz.func45 Y Y<|?_
 intro w0 A W φ0
 refine Tr<|Rx Y (Zjo 0 Y (ov Y) QA Y)<|Rx Y (Z9 (row := [_, _, _, _, _]) 1 Y ZaP Y tZ_26)<|Ra Y<|Za<|Zh<|K3 1 2 4 Y<|Tr<|Rq Y (Qo (ov Y) Y Y Y QA Y Y)<|bE h fun y h_y h=>Rq Y (Zp (Jj h_y)<|.cons (ov Y) (.aggB Y) .nil)<|Ra Y<|Za<|K4 1 2 4 6 Y<|Tr<|Rm Y<|R2 Xa Y<|Za<|K5 1 2 4 6 10 Y<|If h Y (fun h=>?_) fun h=>?_
 ·
  refine K2 4 6 Y<|Tr<|Rq Y (Xo (ys := [_, _, _, _, _]) Zfd Zfh ZaP .nil Y)<|Rm Y<|Rx Y (Zj (ov Y) (ov Y) (Zv QA Y) Y Y Y (Nat.le_of_ble_eq_true Y) (Zb Y) Y)<|Ra Y<|Za<|?_
  obtain rfl := rt h
  exact Zo<|JN [none, none, none] Y (.cons (.agg Y Y Y Y QA Y Y)<|.cons (.tmp Y) .nil) (.row 49<|.row 3<|.row 4 .nil) Y Y<|QW<|rlc (ZaG<|rlc (.dat Y)<|rlc (.dat Y)<|rlc (.row Y)<|rlc (.row Y)<|rlc (.row Y) rln)<|rlc (.dat Y) rln
 ·
  refine Zi<|Zh<|K3 1 2 4 Y<|Tr<|Rm Y<|Rq Y (Zf (ov Y) Y Y Zx)<|Rq Y (Zs (ov Y) Y Y Y ZY Y)<|Rl tZ_49 ZQ Y<|R2 Zay Y<|bE h fun y2 h_y2 h=>Rq Y (Zp (QC h_y2)<|.cons (ov Y) (.b Y)<|.cons (ov Y) (.b Y)<|.cons (ov Y) (.b Y) .nil)<|R1 Ji Y<|Za<|K4 1 2 4 19 Y<|If h Y (fun h=>?_) fun h=>?_
  ·
   refine K1 4 Y<|Tr<|Rq Y (Xo (ys := [_, _, _, _, _]) Zfd Zfh ZaP .nil Y)<|Rx Y (Zj (ov Y) (ov Y) (Zv QA Y) Y Y Y (Nat.le_of_ble_eq_true Y) (Zb Y) Y)<|Ra Y<|Za<|?_
   obtain rfl := rt h
   exact Zo<|JN [none, none, none] Y (.cons (.agg Y Y Y Y QA Y Y)<|.cons (.tmp Y) .nil) (.row 49<|.row 3<|.row 4 .nil) Y Y<|QW<|rlc (ZaG<|rlc (.dat Y)<|rlc (.dat Y)<|rlc (.row Y)<|rlc (.row Y)<|rlc (.row Y) rln)<|rlc (.dat Y) rln
  ·
   refine Zi<|K3 1 2 4 Y<|Tr<|Rq Y (Qo (ov Y) Y Y Y QA Y Y)<|bE h fun y3 h_y3 h=>Rx Y (ZG [] (J6 h_y3) (.cons (ov Y) (ZaG<|rld Y) .nil) .nil Y (.keep Y Y<|.keep Y Y<|.lent 0 (.inr ⟨Nat.le_of_ble_eq_true Y, Y⟩) Y (roO QN)<|.lent 1 (.inr ⟨Nat.le_of_ble_eq_true Y, Y⟩) Y (roM D3)<|.lent 2 (.inr ⟨Nat.le_of_ble_eq_true Y, Y⟩) Y (roM D4) .nil) Y Y<|ZaG<|rlc (.dat Y)<|rlc (.dat Y)<|rlc (.own _<|.inr ⟨Nat.le_of_ble_eq_true Y, Y⟩)<|rlc (.own _<|.inr ⟨Nat.le_of_ble_eq_true Y, Y⟩)<|rlc (.own _<|.inr ⟨Nat.le_of_ble_eq_true Y, Y⟩) rln)<|Rx Y (Zj (ov Y) (ov Y) (Zv QA Y) Y Y Y (Nat.le_of_ble_eq_true Y) (Zb Y) Y)<|Za<|K3 1 2 4 Y<|QG [some ⟨26, [[.int .i64 y3.Slots, .int .i64 y3.Limit, .own 2 y3.Sectors.length, .own 3 y3.Wear.length, .own 4 y3.Bad.length]]⟩, some ⟨26, [[.int .i64 0, .int .i64 0, .nils, .nils, .nils]]⟩, some ⟨49, List.map O49 y3.Sectors⟩, some ⟨3, List.map R3 y3.Wear⟩, some ⟨4, List.map R4 y3.Bad⟩] Y<|Tr<|Rq Y (Zf (ov Y) Y Y Zx)<|Rq Y (Zs (ov Y) Y Y Y ZY Y)<|Rm Y<|bE h fun x h_x h=>Rq Y (Qh (ov Y) (ov Y) ZQ Y Y h_x)<|QZ (Ent.focusH (r := 2) (j := 0) (e' := 5) (g := R5) (ys := x) Y (ZD h_x).2 Y DR5)<|Rq Y (ZbX (ov Y) Y Y (ZD h_x).2 ZdQ Y)<|Rx Y (Zk9 (f := R5) (g := C5) (z0 := 0) (ov Y) Y Y (fun _=>Y) Qp tZ5 Y fun _ _=>.int _ _)<|Zen [some ⟨26, [[.int .i64 y3.Slots, .int .i64 y3.Limit, .own 2 y3.Sectors.length, .own 3 y3.Wear.length, .own 4 y3.Bad.length]]⟩, some ⟨26, [[.int .i64 0, .int .i64 0, .nils, .nils, .nils]]⟩, some ⟨49, List.set (List.map O49 y3.Sectors) sector.toNat [.own 5 x.length]⟩, some ⟨3, List.map R3 y3.Wear⟩, some ⟨4, List.map R4 y3.Bad⟩, some ⟨5, List.map R5 (List.replicate x.length 0)⟩] Y<|?_
   have h_x2 := XG (y := (List.replicate x.length 0)) h_x
   refine QZ (Ent.absorbH (r := 2) (j := 0) (q := 5) Y (ZD h_x).2 Y Y ((List.length_map ..).trans<|List.length_replicate.trans Y) Y)<|QZ (Ent.closeH (r := 2) (y := (List.replicate x.length 0)) Y Y)<|Za<|K3 1 2 4 Y<|QG [some ⟨26, [[.int .i64 y3.Slots, .int .i64 y3.Limit, .own 2 y3.Sectors.length, .own 3 y3.Wear.length, .own 4 y3.Bad.length]]⟩, some ⟨26, [[.int .i64 0, .int .i64 0, .nils, .nils, .nils]]⟩, some ⟨49, List.map O49 (y3.Sectors.set sector.toNat (List.replicate x.length 0))⟩, some ⟨3, List.map R3 y3.Wear⟩, some ⟨4, List.map R4 y3.Bad⟩, none] Y<|Tr<|Rq Y (Zf (ov Y) Y Y ZbD)<|Rq Y (Zs (ov Y) Y Y Y Zf1 Y)<|Rm Y<|bE h fun x3 h_x3 h=>Rq Y (Qh (ov Y) (ov Y) ZdV Y Y h_x3)<|Rx Y (Xh (u' := true) (ov Y) (ov Y) (Ze tS4) Y Y h_x3 Y (Zb Y) Y)<|Za<|K2 2 4 Y<|QG [some ⟨26, [[.int .i64 y3.Slots, .int .i64 y3.Limit, .own 2 y3.Sectors.length, .own 3 y3.Wear.length, .own 4 y3.Bad.length]]⟩, some ⟨26, [[.int .i64 0, .int .i64 0, .nils, .nils, .nils]]⟩, some ⟨49, List.map O49 (y3.Sectors.set sector.toNat (List.replicate x.length 0))⟩, some ⟨3, List.map R3 y3.Wear⟩, some ⟨4, List.map R4 (y3.Bad.set sector.toNat true)⟩, none] Y<|Tr<|Rq Y (Qo (ov Y) Y Y Y QA Y Y)<|Rx Y (Zj (ov Y) (ov Y) (Zv QA Y) Y Y Y (Nat.le_of_ble_eq_true Y) (Zb Y) Y)<|Ra Y<|Za<|?_
   obtain rfl := rt h
   exact Zo<|JN [some 2, some 3, some 4] Y (.cons (.agg Y Y Y Y QA Y Y)<|.cons (.tmp Y) .nil) (.cons Y (roO QN)<|.cons Y (roM D3)<|.cons Y (roM D4) .nil) Y Y<|QW<|rlc (ZaG<|rlc (.dat Y)<|rlc (.dat Y)<|rlc (Zb2 (Eq.symm<|(List.length_set ..).trans Y) Y)<|rlc (.own _ Y)<|rlc (Zb2 (Eq.symm<|(List.length_set ..).trans Y) Y) rln)<|rlc (.dat Y) rln
theorem Zh5 {m : api_Memory} {r : api_Memory} (h : Zd6 m = some r) :
 GSpec Tryz.prog gl0 14 [.agg [.int .i64 m.Slots, .int .i64 m.Limit, .sl 49 (List.map R49 m.Sectors), .sl 3 (List.map R3 m.Wear), .sl 4 (List.map R4 m.Bad)]] [] (.agg [.int .i64 r.Slots, .int .i64 r.Limit, .own 0 r.Sectors.length, .own 1 r.Wear.length, .own 2 r.Bad.length]) [some ⟨49, List.map O49 r.Sectors⟩, some ⟨3, List.map R3 r.Wear⟩, some ⟨4, List.map R4 r.Bad⟩] := by
 unfold Zd6 at h
 replace h := Qm h
 refine QF (by kernel_rfl) Tryz.func14 Y Y<|?_
 intro w0 A W φ0
 refine Tr<|Rq Y (JG (cva<|ov Y) Y tZ_26 Y)<|Rx Y (Z9 (row := [_, _, _, _, _]) 0 Y ZaP Y tZ_26)<|Za<|K2 1 2 Y<|Tr<|Rq Y (Qb (ov Y) QA Y Y)<|Rx Y (Z9 (row := [_, _, _, _, _]) 1 Y ZaP Y tZ_26)<|Rx Y (Zj (ov Y) (ov Y) (Zv QA Y) Y Y Y (Nat.le_of_ble_eq_true Y) (Zb Y) Y)<|Za<|K3 1 2 3 Y<|Tr<|Rq Y (Zf (ov Y) Y Y Zx)<|Rx Y (Zj (ov Y) (ov Y) (Ze ZY) Y Y Y (Nat.le_of_ble_eq_true Y) (Zb Y) Y)<|Za<|I1 (fun Sectors=>⟨[(1, .rp [.int .i64 m.Slots, .int .i64 m.Limit, .sl 49 (List.map R49 m.Sectors), .sl 3 (List.map R3 m.Wear), .sl 4 (List.map R4 m.Bad)] 0), (2, .ptr 0 1 0 0), (3, .ptr 1 1 0 0)], [some ⟨26, [[.int .i64 0, .int .i64 0, .nils, .nils, .nils]]⟩, some ⟨26, [[.int .i64 m.Slots, .int .i64 m.Limit, .own 2 Sectors.length, .sl 3 (List.map R3 m.Wear), .sl 4 (List.map R4 m.Bad)]]⟩, some ⟨49, List.map O49 Sectors⟩]⟩) h (fun h=>?_) fun Sectors h=>?_
 ·
  refine K3 1 2 3 Y<|Tr<|Rq Y (Zy (ov Y) Zx)<|Rq Y (Zd (ov Y) ZY Y)<|Rl tZ_49 ZQ Y<|Rm Y<|Za<|Zg<|?_
  obtain ⟨r1, hl1, ho1⟩ := QU h
  refine L2 (fun Sectors2 i=>⟨[(1, .rp [.int .i64 m.Slots, .int .i64 m.Limit, .sl 49 (List.map R49 m.Sectors), .sl 3 (List.map R3 m.Wear), .sl 4 (List.map R4 m.Bad)] 0), (2, .ptr 0 1 0 0), (3, .ptr 1 1 0 0), (9, .sl 49 (List.map R49 m.Sectors)), (10, .int .i64 (m.Sectors.length : Int)), (11, .int .i64 i)], [some ⟨26, [[.int .i64 0, .int .i64 0, .nils, .nils, .nils]]⟩, some ⟨26, [[.int .i64 m.Slots, .int .i64 m.Limit, .own 2 Sectors2.length, .sl 3 (List.map R3 m.Wear), .sl 4 (List.map R4 m.Bad)]]⟩, some ⟨49, List.map O49 Sectors2⟩]⟩) hl1 (ES [some 0, some 1, none]) fun n1 Sectors2 i h=>?_
  unfold ZbV at h
  refine Tr<|R2 ZU Y<|Za<|Zh<|If h Y (fun h=>?_) fun h=>?_
  ·
   refine Zi<|I1 (fun Sectors3=>⟨[(1, .rp [.int .i64 m.Slots, .int .i64 m.Limit, .sl 49 (List.map R49 m.Sectors), .sl 3 (List.map R3 m.Wear), .sl 4 (List.map R4 m.Bad)] 0), (2, .ptr 0 1 0 0), (3, .ptr 1 1 0 0), (9, .sl 49 (List.map R49 m.Sectors)), (10, .int .i64 (m.Sectors.length : Int)), (11, .int .i64 i)], [some ⟨26, [[.int .i64 0, .int .i64 0, .nils, .nils, .nils]]⟩, some ⟨26, [[.int .i64 m.Slots, .int .i64 m.Limit, .own 2 Sectors3.length, .sl 3 (List.map R3 m.Wear), .sl 4 (List.map R4 m.Bad)]]⟩, some ⟨49, List.map O49 Sectors3⟩]⟩) h (fun h=>?_) fun Sectors3 h=>?_
   ·
    refine Zg<|K6 1 2 3 9 10 11 Y<|Tr<|bE h fun x h_x h=>Rq Y (Z4 (ov Y) (ov Y) ZQ h_x)<|Rq Y (Zd (ov Y) ZdQ Y)<|Ra Y<|Za<|K7 1 2 3 5 9 10 11 Y<|Qf (cw := ⟨true, false, [], [], []⟩) (by kernel_rfl)<|Z3 3 _ Y (by kernel_rfl) Y Y (fun hp'=>Zc<|ov Y)<|Dw 0 2 Y (Zf (ov Y) Y Y Zx) (ZdZ (r := 3) (xs := ([] : List Int)) (f := R5) Y Qp .nil Y Y Y) ?_ ?_
    ·
     refine Dw 1 2 Y (Zs (ov Y) Y Y Y ZY Y) (ZdZ (r := 3) (xs := ([] : List Int)) (f := R5) Y Qp .nil Y Y Y) ?_ ?_
     ·
      exact Do 2 Y (ZdZ (r := 3) (xs := ([] : List Int)) (f := R5) Y Qp .nil Y Y Y)<|bE h fun l h_l h=>Do 4 Y (Jn (ov Y) (Qs (ov Y) tZ_5) Qp Y Y (fun _=>Zb Y) Y h_l)<|Do 5 Y (Qk (r := 4) Y ZQ (.cons (cvs (ov Y)<|Zk Y) Y .nil) Y Y)<|bE h fun l2 h_l2 h=>Do 6 Y (ZA (f := O49) (ov Y) (ZW (o := ⟨49, [[.own 3 l.length]]⟩) (ov Y) Y Y tZ_49) ZQ Y Y (Zb Y) Y h_l2)<|Dq 7 Y (Zf (ov Y) Y Y Zx)<|Do 8 Y (Zj (ov Y) (ov Y) (Ze ZY) Y Y Y (Nat.le_of_ble_eq_true Y) (Zb Y) Y)<|ZX (by kernel_rfl) (Ent.trans (Ent.absorbH (r := 2) (j := 0) (q := 3) Y (Zm h_l2) Y Y (List.length_map ..) Y)<|Ent.closeS (r := 2) Y (Zm h_l2) Y)<|⟨_, h, ES [some 0, some 1, some 2] (hhp := .cons Y (ro1 (by exact tZ_26.symm)<|rld Y)<|.cons Y (ro1 (by exact tZ_26.symm)<|rlc (.dat Y)<|rlc (.dat Y)<|rlc (.own _ Y)<|rlc (.dat Y)<|rlc (.dat Y) rln)<|.cons Y (roO QN) .nil)⟩
     ·
      refine bE h fun l h_l h=>Dw 1 4 Y (Zs (ov Y) Y Y Y ZY Y) (Jn (ov Y) (Qs (ov Y) tZ_5) Qp Y Y (fun _=>Zb Y) Y h_l) ?_ ?_
      ·
       exact Do 4 Y (Jn (ov Y) (Qs (ov Y) tZ_5) Qp Y Y (fun _=>Zb Y) Y h_l)<|Do 5 Y (Qk (r := 4) Y ZQ (.cons (cvs (ov Y)<|Zk Y) Y .nil) Y Y)<|bE h fun l2 h_l2 h=>Do 6 Y (ZA (f := O49) (ov Y) (ZW (o := ⟨49, [[.own 3 l.length]]⟩) (ov Y) Y Y tZ_49) ZQ Y Y (Zb Y) Y h_l2)<|Dq 7 Y (Zf (ov Y) Y Y Zx)<|Do 8 Y (Zj (ov Y) (ov Y) (Ze ZY) Y Y Y (Nat.le_of_ble_eq_true Y) (Zb Y) Y)<|ZX (by kernel_rfl) (Ent.trans (Ent.absorbH (r := 2) (j := 0) (q := 3) Y (Zm h_l2) Y Y (List.length_map ..) Y)<|Ent.closeS (r := 2) Y (Zm h_l2) Y)<|⟨_, h, ES [some 0, some 1, some 2] (hhp := .cons Y (ro1 (by exact tZ_26.symm)<|rld Y)<|.cons Y (ro1 (by exact tZ_26.symm)<|rlc (.dat Y)<|rlc (.dat Y)<|rlc (.own _ Y)<|rlc (.dat Y)<|rlc (.dat Y) rln)<|.cons Y (roO QN) .nil)⟩
      ·
       refine Dw 1 5 Y (Zs (ov Y) Y Y Y ZY Y) (Qk (r := 4) Y ZQ (.cons (cvs (ov Y)<|Zk Y) Y .nil) Y Y) ?_ ?_
       ·
        exact Do 5 Y (Qk (r := 4) Y ZQ (.cons (cvs (ov Y)<|Zk Y) Y .nil) Y Y)<|bE h fun l2 h_l2 h=>Do 6 Y (ZA (f := O49) (ov Y) (ZW (o := ⟨49, [[.own 3 l.length]]⟩) (ov Y) Y Y tZ_49) ZQ Y Y (Zb Y) Y h_l2)<|Dq 7 Y (Zf (ov Y) Y Y Zx)<|Do 8 Y (Zj (ov Y) (ov Y) (Ze ZY) Y Y Y (Nat.le_of_ble_eq_true Y) (Zb Y) Y)<|ZX (by kernel_rfl) (Ent.trans (Ent.absorbH (r := 2) (j := 0) (q := 3) Y (Zm h_l2) Y Y (List.length_map ..) Y)<|Ent.closeS (r := 2) Y (Zm h_l2) Y)<|⟨_, h, ES [some 0, some 1, some 2] (hhp := .cons Y (ro1 (by exact tZ_26.symm)<|rld Y)<|.cons Y (ro1 (by exact tZ_26.symm)<|rlc (.dat Y)<|rlc (.dat Y)<|rlc (.own _ Y)<|rlc (.dat Y)<|rlc (.dat Y) rln)<|.cons Y (roO QN) .nil)⟩
       ·
        exact Dq 1 Y (Zs (ov Y) Y Y Y ZY Y)<|bE h fun l2 h_l2 h=>Do 6 Y (ZA (f := O49) (ov Y) (ZW (o := ⟨49, [[.own 3 l.length]]⟩) (ov Y) Y Y tZ_49) ZQ Y Y (Zb Y) Y h_l2)<|Dq 7 Y (Zf (ov Y) Y Y Zx)<|Do 8 Y (Zj (ov Y) (ov Y) (Ze ZY) Y Y Y (Nat.le_of_ble_eq_true Y) (Zb Y) Y)<|ZX (by kernel_rfl) (Ent.trans (Ent.absorbH (r := 2) (j := 0) (q := 3) Y (Zm h_l2) Y Y (List.length_map ..) Y)<|Ent.closeS (r := 2) Y (Zm h_l2) Y)<|⟨_, h, ES [some 0, some 1, some 2] (hhp := .cons Y (ro1 (by exact tZ_26.symm)<|rld Y)<|.cons Y (ro1 (by exact tZ_26.symm)<|rlc (.dat Y)<|rlc (.dat Y)<|rlc (.own _ Y)<|rlc (.dat Y)<|rlc (.dat Y) rln)<|.cons Y (roO QN) .nil)⟩
    ·
     refine bE h fun l h_l h=>Dw 0 4 Y (Zf (ov Y) Y Y Zx) (Jn (ov Y) (Qs (ov Y) tZ_5) Qp Y Y (fun _=>Zb Y) Y h_l) ?_ ?_
     ·
      refine Dw 1 4 Y (Zs (ov Y) Y Y Y ZY Y) (Jn (ov Y) (Qs (ov Y) tZ_5) Qp Y Y (fun _=>Zb Y) Y h_l) ?_ ?_
      ·
       exact Do 4 Y (Jn (ov Y) (Qs (ov Y) tZ_5) Qp Y Y (fun _=>Zb Y) Y h_l)<|Do 5 Y (Qk (r := 4) Y ZQ (.cons (cvs (ov Y)<|Zk Y) Y .nil) Y Y)<|bE h fun l2 h_l2 h=>Do 6 Y (ZA (f := O49) (ov Y) (ZW (o := ⟨49, [[.own 3 l.length]]⟩) (ov Y) Y Y tZ_49) ZQ Y Y (Zb Y) Y h_l2)<|Dq 7 Y (Zf (ov Y) Y Y Zx)<|Do 8 Y (Zj (ov Y) (ov Y) (Ze ZY) Y Y Y (Nat.le_of_ble_eq_true Y) (Zb Y) Y)<|ZX (by kernel_rfl) (Ent.trans (Ent.absorbH (r := 2) (j := 0) (q := 3) Y (Zm h_l2) Y Y (List.length_map ..) Y)<|Ent.closeS (r := 2) Y (Zm h_l2) Y)<|⟨_, h, ES [some 0, some 1, some 2] (hhp := .cons Y (ro1 (by exact tZ_26.symm)<|rld Y)<|.cons Y (ro1 (by exact tZ_26.symm)<|rlc (.dat Y)<|rlc (.dat Y)<|rlc (.own _ Y)<|rlc (.dat Y)<|rlc (.dat Y) rln)<|.cons Y (roO QN) .nil)⟩
      ·
       refine Dw 1 5 Y (Zs (ov Y) Y Y Y ZY Y) (Qk (r := 4) Y ZQ (.cons (cvs (ov Y)<|Zk Y) Y .nil) Y Y) ?_ ?_
       ·
        exact Do 5 Y (Qk (r := 4) Y ZQ (.cons (cvs (ov Y)<|Zk Y) Y .nil) Y Y)<|bE h fun l2 h_l2 h=>Do 6 Y (ZA (f := O49) (ov Y) (ZW (o := ⟨49, [[.own 3 l.length]]⟩) (ov Y) Y Y tZ_49) ZQ Y Y (Zb Y) Y h_l2)<|Dq 7 Y (Zf (ov Y) Y Y Zx)<|Do 8 Y (Zj (ov Y) (ov Y) (Ze ZY) Y Y Y (Nat.le_of_ble_eq_true Y) (Zb Y) Y)<|ZX (by kernel_rfl) (Ent.trans (Ent.absorbH (r := 2) (j := 0) (q := 3) Y (Zm h_l2) Y Y (List.length_map ..) Y)<|Ent.closeS (r := 2) Y (Zm h_l2) Y)<|⟨_, h, ES [some 0, some 1, some 2] (hhp := .cons Y (ro1 (by exact tZ_26.symm)<|rld Y)<|.cons Y (ro1 (by exact tZ_26.symm)<|rlc (.dat Y)<|rlc (.dat Y)<|rlc (.own _ Y)<|rlc (.dat Y)<|rlc (.dat Y) rln)<|.cons Y (roO QN) .nil)⟩
       ·
        exact Dq 1 Y (Zs (ov Y) Y Y Y ZY Y)<|bE h fun l2 h_l2 h=>Do 6 Y (ZA (f := O49) (ov Y) (ZW (o := ⟨49, [[.own 3 l.length]]⟩) (ov Y) Y Y tZ_49) ZQ Y Y (Zb Y) Y h_l2)<|Dq 7 Y (Zf (ov Y) Y Y Zx)<|Do 8 Y (Zj (ov Y) (ov Y) (Ze ZY) Y Y Y (Nat.le_of_ble_eq_true Y) (Zb Y) Y)<|ZX (by kernel_rfl) (Ent.trans (Ent.absorbH (r := 2) (j := 0) (q := 3) Y (Zm h_l2) Y Y (List.length_map ..) Y)<|Ent.closeS (r := 2) Y (Zm h_l2) Y)<|⟨_, h, ES [some 0, some 1, some 2] (hhp := .cons Y (ro1 (by exact tZ_26.symm)<|rld Y)<|.cons Y (ro1 (by exact tZ_26.symm)<|rlc (.dat Y)<|rlc (.dat Y)<|rlc (.own _ Y)<|rlc (.dat Y)<|rlc (.dat Y) rln)<|.cons Y (roO QN) .nil)⟩
     ·
      refine Dw 0 5 Y (Zf (ov Y) Y Y Zx) (Qk (r := 4) Y ZQ (.cons (cvs (ov Y)<|Zk Y) Y .nil) Y Y) ?_ ?_
      ·
       refine Dw 1 5 Y (Zs (ov Y) Y Y Y ZY Y) (Qk (r := 4) Y ZQ (.cons (cvs (ov Y)<|Zk Y) Y .nil) Y Y) ?_ ?_
       ·
        exact Do 5 Y (Qk (r := 4) Y ZQ (.cons (cvs (ov Y)<|Zk Y) Y .nil) Y Y)<|bE h fun l2 h_l2 h=>Do 6 Y (ZA (f := O49) (ov Y) (ZW (o := ⟨49, [[.own 3 l.length]]⟩) (ov Y) Y Y tZ_49) ZQ Y Y (Zb Y) Y h_l2)<|Dq 7 Y (Zf (ov Y) Y Y Zx)<|Do 8 Y (Zj (ov Y) (ov Y) (Ze ZY) Y Y Y (Nat.le_of_ble_eq_true Y) (Zb Y) Y)<|ZX (by kernel_rfl) (Ent.trans (Ent.absorbH (r := 2) (j := 0) (q := 3) Y (Zm h_l2) Y Y (List.length_map ..) Y)<|Ent.closeS (r := 2) Y (Zm h_l2) Y)<|⟨_, h, ES [some 0, some 1, some 2] (hhp := .cons Y (ro1 (by exact tZ_26.symm)<|rld Y)<|.cons Y (ro1 (by exact tZ_26.symm)<|rlc (.dat Y)<|rlc (.dat Y)<|rlc (.own _ Y)<|rlc (.dat Y)<|rlc (.dat Y) rln)<|.cons Y (roO QN) .nil)⟩
       ·
        exact Dq 1 Y (Zs (ov Y) Y Y Y ZY Y)<|bE h fun l2 h_l2 h=>Do 6 Y (ZA (f := O49) (ov Y) (ZW (o := ⟨49, [[.own 3 l.length]]⟩) (ov Y) Y Y tZ_49) ZQ Y Y (Zb Y) Y h_l2)<|Dq 7 Y (Zf (ov Y) Y Y Zx)<|Do 8 Y (Zj (ov Y) (ov Y) (Ze ZY) Y Y Y (Nat.le_of_ble_eq_true Y) (Zb Y) Y)<|ZX (by kernel_rfl) (Ent.trans (Ent.absorbH (r := 2) (j := 0) (q := 3) Y (Zm h_l2) Y Y (List.length_map ..) Y)<|Ent.closeS (r := 2) Y (Zm h_l2) Y)<|⟨_, h, ES [some 0, some 1, some 2] (hhp := .cons Y (ro1 (by exact tZ_26.symm)<|rld Y)<|.cons Y (ro1 (by exact tZ_26.symm)<|rlc (.dat Y)<|rlc (.dat Y)<|rlc (.own _ Y)<|rlc (.dat Y)<|rlc (.dat Y) rln)<|.cons Y (roO QN) .nil)⟩
      ·
       exact Dq 0 Y (Zf (ov Y) Y Y Zx)<|Dq 1 Y (Zs (ov Y) Y Y Y ZY Y)<|bE h fun l2 h_l2 h=>Do 6 Y (ZA (f := O49) (ov Y) (ZW (o := ⟨49, [[.own 3 l.length]]⟩) (ov Y) Y Y tZ_49) ZQ Y Y (Zb Y) Y h_l2)<|Dq 7 Y (Zf (ov Y) Y Y Zx)<|Do 8 Y (Zj (ov Y) (ov Y) (Ze ZY) Y Y Y (Nat.le_of_ble_eq_true Y) (Zb Y) Y)<|ZX (by kernel_rfl) (Ent.trans (Ent.absorbH (r := 2) (j := 0) (q := 3) Y (Zm h_l2) Y Y (List.length_map ..) Y)<|Ent.closeS (r := 2) Y (Zm h_l2) Y)<|⟨_, h, ES [some 0, some 1, some 2] (hhp := .cons Y (ro1 (by exact tZ_26.symm)<|rld Y)<|.cons Y (ro1 (by exact tZ_26.symm)<|rlc (.dat Y)<|rlc (.dat Y)<|rlc (.own _ Y)<|rlc (.dat Y)<|rlc (.dat Y) rln)<|.cons Y (roO QN) .nil)⟩
   ·
    exact Zr<|R2 ZT Y<|Rm Y<|Za<|⟨_, h, ES [some 0, some 1, some 2] (hhp := .cons Y (ro1 (by exact tZ_26.symm)<|rld Y)<|.cons Y (ro1 (by exact tZ_26.symm)<|rlc (.dat Y)<|rlc (.dat Y)<|rlc (.own _ Y)<|rlc (.dat Y)<|rlc (.dat Y) rln)<|.cons Y (roO QN) .nil)⟩
  ·
   refine ZJ<|?_
   replace h := lx h ▸ ho1
   exact ⟨_, h, ES [some 0, some 1, some 2] (hhp := .cons Y (ro1 (by exact tZ_26.symm)<|rld Y)<|.cons Y (ro1 (by exact tZ_26.symm)<|rlc (.dat Y)<|rlc (.dat Y)<|rlc (.own _ Y)<|rlc (.dat Y)<|rlc (.dat Y) rln)<|.cons Y (roO QN) .nil)⟩
 ·
  refine Tr<|Rx Y (ZdZ (r := 3) (xs := ([] : List Int)) (f := R3) Y QB .nil Y Y Y)<|Rq Y (Zy (ov Y) Zce)<|Rq Y (Zd (ov Y) Zhb Y)<|bE h fun l3 h_l3 h=>Rx Y (Jn (ov Y) (Qs (ov Y) tZ_3) QB Y Y (fun _=>Zb Y) Y h_l3)<|Rq Y (Zf (ov Y) Y Y Zce)<|Rx Y (Zj (ov Y) (ov Y) (Ze Zhb) Y Y Y (Nat.le_of_ble_eq_true Y) (Zb Y) Y)<|Za<|K3 1 2 3 Y<|QG [some ⟨26, [[.int .i64 0, .int .i64 0, .nils, .nils, .nils]]⟩, some ⟨26, [[.int .i64 m.Slots, .int .i64 m.Limit, .own 2 Sectors.length, .own 3 l3.length, .sl 4 (List.map R4 m.Bad)]]⟩, some ⟨49, List.map O49 Sectors⟩, some ⟨3, List.map R3 l3⟩] Y<|Tr<|Rx Y (ZdZ (r := 4) (xs := ([] : List Bool)) (f := R4) Y ZdV .nil Y Y Y)<|Rq Y (Zy (ov Y) ZbD)<|Rq Y (Zd (ov Y) Zf1 Y)<|bE h fun l4 h_l4 h=>Rx Y (Jn (ov Y) (Qs (ov Y) tZ_4) ZdV Y Y (fun _=>Zb Y) Y h_l4)<|Rq Y (Zf (ov Y) Y Y ZbD)<|Rx Y (Zj (ov Y) (ov Y) (Ze Zf1) Y Y Y (Nat.le_of_ble_eq_true Y) (Zb Y) Y)<|Za<|K2 2 3 Y<|QG [some ⟨26, [[.int .i64 0, .int .i64 0, .nils, .nils, .nils]]⟩, some ⟨26, [[.int .i64 m.Slots, .int .i64 m.Limit, .own 2 Sectors.length, .own 3 l3.length, .own 4 l4.length]]⟩, some ⟨49, List.map O49 Sectors⟩, some ⟨3, List.map R3 l3⟩, some ⟨4, List.map R4 l4⟩] Y<|Tr<|Rq Y (Qo (ov Y) Y Y Y QA Y Y)<|Rx Y (Zj (ov Y) (ov Y) (Zv QA Y) Y Y Y (Nat.le_of_ble_eq_true Y) (Zb Y) Y)<|Za<|?_
  obtain rfl := rt h
  exact Zo<|JN [some 2, some 3, some 4] Y (.cons (.agg Y Y Y Y QA Y Y) .nil) (.cons Y (roO QN)<|.cons Y (roM D3)<|.cons Y (roM D4) .nil) Y Y<|ZaG<|rlc (.dat Y)<|rlc (.dat Y)<|rlc (.own _ Y)<|rlc (.own _ Y)<|rlc (.own _ Y) rln
theorem ZgW {m : api_Memory} {sector : Int} {r : api_Memory × Int} (h : ZdN m sector = some r) :
 GSpec Tryz.prog gl0 46 [.agg [.int .i64 m.Slots, .int .i64 m.Limit, .sl 49 (List.map R49 m.Sectors), .sl 3 (List.map R3 m.Wear), .sl 4 (List.map R4 m.Bad)], .int .i64 sector] [] (.tuple [.agg [.int .i64 r.1.Slots, .int .i64 r.1.Limit, .own 0 r.1.Sectors.length, .own 1 r.1.Wear.length, .own 2 r.1.Bad.length], .int .i64 r.2]) [some ⟨49, List.map O49 r.1.Sectors⟩, some ⟨3, List.map R3 r.1.Wear⟩, some ⟨4, List.map R4 r.1.Bad⟩] := by
 unfold ZdN at h
 replace h := Qm h
 refine QF (by kernel_rfl) Tryz.func46 Y Y<|?_
 intro w0 A W φ0
 refine Tr<|Rq Y (JG (cva<|ov Y) Y tZ_26 Y)<|Rx Y (Z9 (row := [_, _, _, _, _]) 0 Y ZaP Y tZ_26)<|Ra Y<|Za<|Zh<|K3 1 2 4 Y<|Tr<|Rq Y (Qb (ov Y) QA Y Y)<|bE h fun y h_y h=>Rq Y (Zp (ZaA h_y)<|.cons (ov Y) (.aggB Y) .nil)<|Ra Y<|Za<|K4 1 2 4 6 Y<|Tr<|Rm Y<|R2 Xa Y<|Za<|K5 1 2 4 6 11 Y<|If h Y (fun h=>?_) fun h=>?_
 ·
  refine K2 4 6 Y<|Tr<|Rq Y (Xo (ys := [_, _, _, _, _]) Zfd Zfh ZaP .nil Y)<|Rm Y<|Rx Y (Zj (ov Y) (ov Y) (Zv QA Y) Y Y Y (Nat.le_of_ble_eq_true Y) (Zb Y) Y)<|Ra Y<|Za<|?_
  obtain rfl := rt h
  exact Zo<|JN [none, none, none] Y (.cons (.agg Y Y Y Y QA Y Y)<|.cons (.tmp Y) .nil) (.row 49<|.row 3<|.row 4 .nil) Y Y<|QW<|rlc (ZaG<|rlc (.dat Y)<|rlc (.dat Y)<|rlc (.row Y)<|rlc (.row Y)<|rlc (.row Y) rln)<|rlc (.dat Y) rln
 ·
  refine Zi<|Zh<|K3 1 2 4 Y<|Tr<|Rm Y<|Rq Y (Zy (ov Y) Zx)<|Rq Y (Zd (ov Y) ZY Y)<|Rl tZ_49 ZQ Y<|R2 Zay Y<|bE h fun y2 h_y2 h=>Rq Y (Zp (X4 h_y2)<|.cons (ov Y) (.b Y)<|.cons (ov Y) (.b Y)<|.cons (ov Y) (.b Y) .nil)<|Za<|K4 1 2 4 19 Y<|If h Y (fun h=>?_) fun h=>?_
  ·
   refine K1 4 Y<|Tr<|Rq Y (Xo (ys := [_, _, _, _, _]) Zfd Zfh ZaP .nil Y)<|Rx Y (Zj (ov Y) (ov Y) (Zv QA Y) Y Y Y (Nat.le_of_ble_eq_true Y) (Zb Y) Y)<|Ra Y<|Za<|?_
   obtain rfl := rt h
   exact Zo<|JN [none, none, none] Y (.cons (.agg Y Y Y Y QA Y Y)<|.cons (.tmp Y) .nil) (.row 49<|.row 3<|.row 4 .nil) Y Y<|QW<|rlc (ZaG<|rlc (.dat Y)<|rlc (.dat Y)<|rlc (.row Y)<|rlc (.row Y)<|rlc (.row Y) rln)<|rlc (.dat Y) rln
  ·
   refine Zi<|K3 1 2 4 Y<|Tr<|Rq Y (Qb (ov Y) QA Y Y)<|bE h fun y3 h_y3 h=>Rx Y (ZG [] (Zh5 h_y3) (.cons (ov Y) (ZaG<|rld Y) .nil) .nil Y (.keep Y Y<|.lent 0 (.inr ⟨Nat.le_of_ble_eq_true Y, Y⟩) Y (roO QN)<|.lent 1 (.inr ⟨Nat.le_of_ble_eq_true Y, Y⟩) Y (roM D3)<|.lent 2 (.inr ⟨Nat.le_of_ble_eq_true Y, Y⟩) Y (roM D4) .nil) Y Y<|ZaG<|rlc (.dat Y)<|rlc (.dat Y)<|rlc (.own _<|.inr ⟨Nat.le_of_ble_eq_true Y, Y⟩)<|rlc (.own _<|.inr ⟨Nat.le_of_ble_eq_true Y, Y⟩)<|rlc (.own _<|.inr ⟨Nat.le_of_ble_eq_true Y, Y⟩) rln)<|Rx Y (Z9 (row := [_, _, _, _, _]) 4 Y ZaP Y tZ_26)<|Rx Y (Zj (ov Y) (ov Y) (Zv QA Y) Y Y Y (Nat.le_of_ble_eq_true Y) (Zb Y) Y)<|Za<|K4 1 2 4 7 Y<|QG [some ⟨26, [[.int .i64 0, .int .i64 0, .nils, .nils, .nils]]⟩, some ⟨49, List.map O49 y3.Sectors⟩, some ⟨3, List.map R3 y3.Wear⟩, some ⟨4, List.map R4 y3.Bad⟩, some ⟨26, [[.int .i64 y3.Slots, .int .i64 y3.Limit, .own 1 y3.Sectors.length, .own 2 y3.Wear.length, .own 3 y3.Bad.length]]⟩] Y<|Tr<|Rq Y (Zf (ov Y) Y Y ZbD)<|Rq Y (Zs (ov Y) Y Y Y Zf1 Y)<|Rm Y<|bE h fun x h_x h=>Rq Y (Qh (ov Y) (ov Y) ZdV Y Y h_x)<|Rx Y (Xh (u' := true) (ov Y) (ov Y) (Ze tS4) Y Y h_x Y (Zb Y) Y)<|Za<|Zh<|K4 1 2 4 7 Y<|QG [some ⟨26, [[.int .i64 0, .int .i64 0, .nils, .nils, .nils]]⟩, some ⟨49, List.map O49 y3.Sectors⟩, some ⟨3, List.map R3 y3.Wear⟩, some ⟨4, List.map R4 (y3.Bad.set sector.toNat true)⟩, some ⟨26, [[.int .i64 y3.Slots, .int .i64 y3.Limit, .own 1 y3.Sectors.length, .own 2 y3.Wear.length, .own 3 y3.Bad.length]]⟩] Y<|Qf (cw := md0) (by kernel_rfl)<|Dq 3 Y (Zy (ov Y) Zx)<|Dq 4 Y (Zd (ov Y) ZY Y)<|D1 5 Zc Y<|bE h fun x2 h_x2 h=>Dq 6 Y (Z4 (ov Y) (ov Y) ZQ h_x2)<|Dq 7 Y (Zd (ov Y) ZdQ Y)<|Dq 8 Y (Zii (Qs (ov Y) tZ_5) Qp<|Zek _ _)<|XH 0 _ Y (by kernel_rfl) Y Y Y ExtW.refl (fun hp' hx=>Zf (ov Y) (hx.get Y Y) Y Zx)<|XH 1 _ Y (by kernel_rfl) Y Y Y ExtW.refl (fun hp' hx=>Zs (ov Y) (hx.get Y Y) Y Y ZY Y)<|Z3 2 _ Y (by kernel_rfl) Y Y (fun hp'=>Zc<|ov Y)<|bE h fun l h_l h=>JM 9 _ _ Y (by kernel_rfl) Y Y (fun _=>Ext.app) (fun h=>by cases h) (Zat [none] (r := 5) (f := R5) (z0 := 0) Y (ov Y) (ov Y) Qp Y tZ5 Y Y h_l)<|bE h fun x3 h_x3 h=>Dq 10 Y (Qh (ov Y) (ov Y) ZQ Y Y h_x3)<|Do 11 Y (Zlx (ov Y) (ov Y) (Ze ZdQ) Y Y (ZD h_x3).2 Y (Zb Y) Y)<|?_
   have h_x4 := XG (y := l) h_x3
   refine ZX (by kernel_rfl) (Ent.trans (Ent.absorbH (r := 1) (j := 0) (q := 5) Y (ZD h_x3).2 Y Y (List.length_map ..) Y)<|Ent.closeH (r := 1) (y := l) Y Y)<|K2 4 7 Y<|QG [some ⟨26, [[.int .i64 0, .int .i64 0, .nils, .nils, .nils]]⟩, some ⟨49, List.map O49 (y3.Sectors.set sector.toNat l)⟩, some ⟨3, List.map R3 y3.Wear⟩, some ⟨4, List.map R4 (y3.Bad.set sector.toNat true)⟩, some ⟨26, [[.int .i64 y3.Slots, .int .i64 y3.Limit, .own 1 y3.Sectors.length, .own 2 y3.Wear.length, .own 3 y3.Bad.length]]⟩, none] Y<|Tr<|Rq Y (Qo (ov Y) Y Y Y QA Y Y)<|Rx Y (Zj (ov Y) (ov Y) (Zv QA Y) Y Y Y (Nat.le_of_ble_eq_true Y) (Zb Y) Y)<|Ra Y<|Za<|?_
   obtain rfl := rt h
   exact Zo<|JN [some 1, some 2, some 3] Y (.cons (.agg Y Y Y Y QA Y Y)<|.cons (.tmp Y) .nil) (.cons Y (roO QN)<|.cons Y (roM D3)<|.cons Y (roM D4) .nil) Y Y<|QW<|rlc (ZaG<|rlc (.dat Y)<|rlc (.dat Y)<|rlc (Zb2 (Eq.symm<|(List.length_set ..).trans Y) Y)<|rlc (.own _ Y)<|rlc (Zb2 (Eq.symm<|(List.length_set ..).trans Y) Y) rln)<|rlc (.dat Y) rln
theorem J4 {s1 : List (List Int)} {s2 : List (List Int)} {eq : (List Int) → (List Int) → Option Bool} {r : Bool} {eq_f : FuncId} {eq_c : List AV} (eq_d : eq_c.all datB = true) (eq_h : ∀ (z0 : List Int) (z1 : List Int) z, eq z0 z1 = some z → CSpec Tryz.prog gl0 eq_f ([.sl 5 (List.map R5 z0), .sl 5 (List.map R5 z1)] ++ eq_c) (.bool z)) (h : Z5 s1 s2 eq = some r) :
 CSpec Tryz.prog gl0 59 [.sl 49 (List.map R49 s1), .sl 49 (List.map R49 s2), .fn eq_f eq_c] (.bool r) := by
 unfold Z5 at h
 replace h := Qm h
 refine So Tryz.func59 Y fun w0 A=>Tr<|Ra Y<|Za<|Zh<|K3 0 1 2 Y<|Tr<|Rm Y<|Rl tZ_49 ZQ Y<|Rm Y<|Rl tZ_49 ZQ Y<|R2 Xa Y<|Za<|K4 0 1 2 14 Y<|If h Y (fun h=>?_) fun h=>?_
 ·
  refine K0<|Tr<|Ra Y<|Za<|?_
  obtain rfl := rt h
  exact Zo (ZS Y (.one<|rb Y))
 ·
  refine Zi<|J0 (fun j => (.inr j)) ⟨[], []⟩ h (fun h=>?_) fun h=>?_
  ·
   refine K3 0 1 2 Y<|Tr<|Rm Y<|Rl tZ_49 ZQ Y<|Rm Y<|Za<|Zg<|?_
   obtain ⟨r1, hl1, ho1⟩ := QU h
   refine L1 (fun i=>⟨[(1, .sl 49 (List.map R49 s2)), (2, .fn eq_f eq_c), (15, .sl 49 (List.map R49 s1)), (16, .int .i64 (s1.length : Int)), (17, .int .i64 i)], []⟩) hl1 (ES []<|sd 1 Y Y<|sr 2 Y (rFn<|rld eq_d)<|sd 15 Y Y<|sd 16 Y Y<|sd 17 Y Y sn) fun n1 i h=>?_
   unfold Qe at h
   refine Tr<|R2 ZU Y<|Za<|Zh<|If h Y (fun h=>?_) fun h=>?_
   ·
    refine Zi<|Zh<|Zg<|K5 1 2 15 16 17 Y<|Tr<|Rm Y<|bE h fun x h_x h=>Rq Y (Z4 (ov Y) (ov Y) ZQ h_x)<|Rq Y (Zd (ov Y) ZdQ Y)<|Ra Y<|Ra Y<|Za<|K7 1 2 7 8 15 16 17 Y<|Tr<|Rm Y<|Rm Y<|bE h fun x2 h_x2 h=>Rq Y (Z4 (ov Y) (ov Y) ZQ h_x2)<|Rq Y (Zd (ov Y) ZdQ Y)<|Ra Y<|Za<|K7 1 2 8 9 15 16 17 Y<|Tr<|Rm Y<|Rm Y<|Rm Y<|bE h fun y h_y h=>Rq Y (ZdF (ov Y) eq_d (eq_h _ _ _ h_y)<|.cons (ov Y) (.b Y)<|.cons (ov Y) (.b Y) .nil)<|R1 Ji Y<|Za<|K6 1 2 15 16 17 30 Y<|If h Y (fun h=>?_) fun h=>?_
    ·
     refine K0<|Tr<|Ra Y<|Za<|?_
     replace h := lx h ▸ ho1
     obtain rfl := rt h
     exact Zo (ZS Y (.one<|rb Y))
    ·
     exact Zi<|K5 1 2 15 16 17 Y<|Zr<|R2 ZT Y<|Rm Y<|Za<|⟨_, h, ES []<|sd 1 Y Y<|sr 2 Y (rFn<|rld eq_d)<|sd 15 Y Y<|sd 16 Y Y<|sd 17 Y Y sn⟩
   ·
    refine ZJ<|?_
    replace h := lx h ▸ ho1
    exact ⟨(), h, ES []⟩
  ·
   replace h := elr h
   replace h := t0i h
   refine Tr<|Ra Y<|Za<|?_
   obtain rfl := rt h
   exact Zo (ZS Y (.one<|rb Y))
theorem Zik {a : List Int} {b : List Int} {r : Bool} (h : ZcH a b = some r) :
 CSpec Tryz.prog gl0 22 [.sl 5 (List.map R5 a), .sl 5 (List.map R5 b)] (.bool r) := by
 unfold ZcH at h
 replace h := Qm h
 refine So Tryz.func22 Y fun w0 A=>Tr<|Ra Y<|Za<|Tr<|Rm Y<|Rq Y (ZhR (f := R5) (Qs (ov Y) tZ_5) (fun _=>Y) Qp ZiQ Zl5)<|Rm Y<|Rq Y (ZhR (f := R5) (Qs (ov Y) tZ_5) (fun _=>Y) Qp ZiQ Zl5)<|R2 Zlr Y<|Ra Y<|Za<|?_
 obtain rfl := rt h
 exact Zo (ZS Y (.one<|rb Y))
theorem Zdv {s1 : List Bool} {s2 : List Bool} {r : Bool} (h : Q0 s1 s2 = some r) :
 CSpec Tryz.prog gl0 60 [.sl 4 (List.map R4 s1), .sl 4 (List.map R4 s2)] (.bool r) := by
 unfold Q0 at h
 replace h := Qm h
 refine So Tryz.func60 Y fun w0 A=>Tr<|Ra Y<|Za<|Zh<|K2 0 1 Y<|Tr<|Rm Y<|Rl tZ_4 ZdV Y<|Rm Y<|Rl tZ_4 ZdV Y<|R2 Xa Y<|Za<|K3 0 1 10 Y<|If h Y (fun h=>?_) fun h=>?_
 ·
  refine K0<|Tr<|Ra Y<|Za<|?_
  obtain rfl := rt h
  exact Zo (ZS Y (.one<|rb Y))
 ·
  refine Zi<|J0 (fun j => (.inr j)) ⟨[], []⟩ h (fun h=>?_) fun h=>?_
  ·
   refine K2 0 1 Y<|Tr<|Rm Y<|Rl tZ_4 ZdV Y<|Rm Y<|Za<|Zg<|?_
   obtain ⟨r1, hl1, ho1⟩ := QU h
   refine L1 (fun i=>⟨[(0, .sl 4 (List.map R4 s1)), (1, .sl 4 (List.map R4 s2)), (12, .int .i64 (s1.length : Int)), (13, .int .i64 i)], []⟩) hl1 (ES []) fun n1 i h=>?_
   unfold Xg at h
   refine Tr<|R2 ZU Y<|Za<|Zh<|If h Y (fun h=>?_) fun h=>?_
   ·
    refine Zi<|Zh<|Zg<|K4 0 1 12 13 Y<|Tr<|Rm Y<|Ra Y<|Za<|Zh<|K5 0 1 5 12 13 Y<|Qf (cw := md0) (by kernel_rfl)<|D1 0 Zc Y<|D1 1 Zc Y<|bE h fun x h_x h=>Dq 2 Y (Z4 (ov Y) (ov Y) ZdV h_x)<|Dq 3 Y (Zd (ov Y) tS4 Y)<|D1 4 Zc Y<|D1 5 Zc Y<|bE h fun x2 h_x2 h=>Dq 6 Y (Z4 (ov Y) (ov Y) ZdV h_x2)<|Dq 7 Y (Zd (ov Y) tS4 Y)<|Dq 8 Y (Zjt .neq (by simp) (ov Y) (ov Y) tB4)<|Dd<|K5 0 1 12 13 24 Y<|If h Y (fun h=>?_) fun h=>?_
    ·
     refine K0<|Tr<|Ra Y<|Za<|?_
     replace h := lx h ▸ ho1
     obtain rfl := rt h
     exact Zo (ZS Y (.one<|rb Y))
    ·
     exact Zi<|K4 0 1 12 13 Y<|Zr<|R2 ZT Y<|Rm Y<|Za<|⟨_, h, ES []⟩
   ·
    refine ZJ<|?_
    replace h := lx h ▸ ho1
    exact ⟨(), h, ES []⟩
  ·
   replace h := elr h
   replace h := t0i h
   refine Tr<|Ra Y<|Za<|?_
   obtain rfl := rt h
   exact Zo (ZS Y (.one<|rb Y))
theorem Zf9 {a : api_Memory} {b : api_Memory} {r : Bool} (h : JJ a b = some r) :
 CSpec Tryz.prog gl0 12 [.agg [.int .i64 a.Slots, .int .i64 a.Limit, .sl 49 (List.map R49 a.Sectors), .sl 3 (List.map R3 a.Wear), .sl 4 (List.map R4 a.Bad)], .agg [.int .i64 b.Slots, .int .i64 b.Limit, .sl 49 (List.map R49 b.Sectors), .sl 3 (List.map R3 b.Wear), .sl 4 (List.map R4 b.Bad)]] (.bool r) := by
 unfold JJ at h
 replace h := Qm h
 refine So Tryz.func12 Y fun w0 A=>Tr<|Rq Y (JG (cva<|ov Y) Y tZ_26 Y)<|Rq Y (JG (cva<|ov Y) Y tZ_26 Y)<|Ra Y<|Za<|K3 2 3 4 Y<|Tr<|Rq Y (Zy (ov Y) ZeB)<|Rq Y (Zd (ov Y) tS3 Y)<|Rq Y (Zy (ov Y) ZeB)<|Rq Y (Zd (ov Y) tS3 Y)<|R2 Zbd Y<|Rm Y<|Rq Y (.guarded ((decide (a.Slots = b.Slots)) == true) Y Y Y Y fun h => Zy (ov Y) Zga)<|Rq Y (.guarded ((decide (a.Slots = b.Slots)) == true) Y Y Y Y fun h => Zd (ow Y h) tS3 Y)<|Rq Y (.guarded ((decide (a.Slots = b.Slots)) == true) Y Y Y Y fun h => Zy (ov Y) Zga)<|Rq Y (.guarded ((decide (a.Slots = b.Slots)) == true) Y Y Y Y fun h => Zd (ow Y h) tS3 Y)<|Rq Y (.guarded ((decide (a.Slots = b.Slots)) == true) Y Y Y Y fun h => Zbd (ow Y h)<|ow Y h)<|Rq Y (Zaw (ov Y) fun hp=>ow Y<|gT hp)<|Rm Y<|Rq Y (.guarded (((decide (a.Slots = b.Slots)) && (decide (a.Limit = b.Limit))) == true) Y Y Y Y fun h => Zy (ov Y) Zx)<|Rq Y (.guarded (((decide (a.Slots = b.Slots)) && (decide (a.Limit = b.Limit))) == true) Y Y Y Y fun h => Zd (ow Y h) ZY Y)<|Rq Y (.guarded (((decide (a.Slots = b.Slots)) && (decide (a.Limit = b.Limit))) == true) Y Y Y Y fun h => Zy (ov Y) Zx)<|Rq Y (.guarded (((decide (a.Slots = b.Slots)) && (decide (a.Limit = b.Limit))) == true) Y Y Y Y fun h => Zd (ow Y h) ZY Y)<|bE h fun y h_y h=>Rq Y (.guarded (((decide (a.Slots = b.Slots)) && (decide (a.Limit = b.Limit))) == true) Y Y Y Y fun h => Zp (J4 Y (fun z0 z1 _ hz=>Zik hz)<|gdT h_y h)<|.cons (ow Y h) (.b Y)<|.cons (ow Y h) (.b Y)<|.cons (ov Y) .fn .nil)<|Rq Y (Zaw (ov Y) fun hp=>ow Y<|gT hp)<|Rm Y<|Rq Y (.guarded ((((decide (a.Slots = b.Slots)) && (decide (a.Limit = b.Limit))) && y) == true) Y Y Y Y fun h => Zy (ov Y) Zce)<|Rq Y (.guarded ((((decide (a.Slots = b.Slots)) && (decide (a.Limit = b.Limit))) && y) == true) Y Y Y Y fun h => Zd (ow Y h) Zhb Y)<|Rq Y (.guarded ((((decide (a.Slots = b.Slots)) && (decide (a.Limit = b.Limit))) && y) == true) Y Y Y Y fun h => Zy (ov Y) Zce)<|Rq Y (.guarded ((((decide (a.Slots = b.Slots)) && (decide (a.Limit = b.Limit))) && y) == true) Y Y Y Y fun h => Zd (ow Y h) Zhb Y)<|bE h fun y2 h_y2 h=>Rq Y (.guarded ((((decide (a.Slots = b.Slots)) && (decide (a.Limit = b.Limit))) && y) == true) Y Y Y Y fun h => Zp (Zbc<|gdT h_y2 h)<|.cons (ow Y h) (.b Y)<|.cons (ow Y h) (.b Y) .nil)<|Rq Y (Zaw (ov Y) fun hp=>ow Y<|gT hp)<|Rm Y<|Rq Y (.guarded (((((decide (a.Slots = b.Slots)) && (decide (a.Limit = b.Limit))) && y) && y2) == true) Y Y Y Y fun h => Zy (ov Y) ZbD)<|Rq Y (.guarded (((((decide (a.Slots = b.Slots)) && (decide (a.Limit = b.Limit))) && y) && y2) == true) Y Y Y Y fun h => Zd (ow Y h) Zf1 Y)<|Rq Y (.guarded (((((decide (a.Slots = b.Slots)) && (decide (a.Limit = b.Limit))) && y) && y2) == true) Y Y Y Y fun h => Zy (ov Y) ZbD)<|Rq Y (.guarded (((((decide (a.Slots = b.Slots)) && (decide (a.Limit = b.Limit))) && y) && y2) == true) Y Y Y Y fun h => Zd (ow Y h) Zf1 Y)<|bE h fun y3 h_y3 h=>Rq Y (.guarded (((((decide (a.Slots = b.Slots)) && (decide (a.Limit = b.Limit))) && y) && y2) == true) Y Y Y Y fun h => Zp (Zdv<|gdT h_y3 h)<|.cons (ow Y h) (.b Y)<|.cons (ow Y h) (.b Y) .nil)<|Rq Y (Zaw (ov Y) fun hp=>ow Y<|gT hp)<|Ra Y<|Za<|?_
 obtain rfl := rt h
 exact Zo (ZS Y (.one<|rb Y))
theorem ZjE {n : Int} {r : Bool} (h : Zfe n = some r) :
 CSpec Tryz.prog gl0 151 [.int .i64 n] (.bool r) := by
 unfold Zfe at h
 replace h := Qm h
 refine So Tryz.func151 Y fun w0 A=>Tr<|Ra Y<|Za<|K1 0 Y<|Tr<|Ra Y<|Za<|I1 (fun ones=>⟨[(3, .int .i64 ones)], []⟩) h (fun h=>?_) fun ones h=>?_
 ·
  refine Zg<|?_
  obtain ⟨r1, hl1, ho1⟩ := QU h
  refine L2 (fun n2 ones2=>⟨[(0, .int .i64 n2), (3, .int .i64 ones2)], []⟩) hl1 (ES []) fun n1 n2 ones2 h=>?_
  unfold ZdD at h
  refine Zh<|Tr<|Rm Y<|R2 ZbA Y<|Za<|K3 0 3 5 Y<|If h Y (fun h=>?_) fun h=>?_
  ·
   exact Zi<|Zh<|Zg<|K2 0 3 Y<|Zr<|Rm Y<|Rm Y<|bE h fun q h_q h=>Rq Y (ZaC (ov Y) (ov Y) h_q)<|R2 ZT Y<|Ra Y<|Za<|K2 0 3 Y<|Zr<|Rm Y<|bE h fun q2 h_q2 h=>Rq Y (Zge (ov Y) (ov Y) h_q2)<|Ra Y<|Za<|⟨_, h, ES []⟩
  ·
   refine ZJ<|?_
   replace h := lx h ▸ ho1
   exact ⟨_, h, ES []⟩
 ·
  refine Tr<|Rm Y<|bE h fun q3 h_q3 h=>Rq Y (ZaC (ov Y) (ov Y) h_q3)<|R2 Zbd Y<|Ra Y<|Za<|?_
  obtain rfl := rt h
  exact Zo (ZS Y (.one<|rb Y))
theorem Zc5 {data : Int} {r : Int} (h : Zbf data = some r) :
 CSpec Tryz.prog gl0 131 [.int .i64 data] (.int .i64 r) := by
 unfold Zbf at h
 replace h := Qm h
 refine So Tryz.func131 Y fun w0 A=>Tr<|Ra Y<|Za<|Zh<|K1 0 Y<|Tr<|Rm Y<|bE h fun y h_y h=>Rq Y (Zp (ZjE h_y)<|.cons (ov Y) (.b Y) .nil)<|Za<|K2 0 4 Y<|If h Y (fun h=>?_) fun h=>?_
 ·
  refine K1 0 Y<|Tr<|Rm Y<|Ra Y<|Za<|?_
  obtain rfl := rt h
  exact Zo (ZS Y (.one<|rb Y))
 ·
  refine Zi<|K1 0 Y<|Tr<|Rm Y<|R2 ZT Y<|Ra Y<|Za<|?_
  obtain rfl := rt h
  exact Zo (ZS Y (.one<|rb Y))
theorem Zg0 {f : Vector Int 64} {r : Int} (h : ZaN f = some r) :
 CSpec Tryz.prog gl0 123 [.agg (List.map C40 f.toList)] (.int .i64 r) := by
 unfold ZaN at h
 replace h := Qm h
 refine So Tryz.func123 Y fun w0 A=>Tr<|Rq Y (JG (cva<|ov Y) arL tZ_42<|arD fun _ => Y)<|Ra Y<|Za<|K2 1 2 Y<|Tr<|bE h fun x h_x h=>Rq Y (Xe (ov Y) (ov Y) ZaE h_x)<|Rq Y (Zd (ov Y) ZbC<|QP<|XR (o := 0) (o' := ((Int.toNat 1) * 1)) (Zz arL)<|XK h_x)<|Rq Y (Qj (ov Y) Zdx tI3 Y)<|bE h fun q h_q h=>Rq Y (ZaC (ov Y) (ov Y) h_q)<|bE h fun x2 h_x2 h=>Rq Y (Xe (ov Y) (ov Y) ZaE h_x2)<|Rq Y (Zd (ov Y) ZbC<|QP<|XR (o := 0) (o' := ((Int.toNat 2) * 1)) (Zz arL)<|XK h_x2)<|Rq Y (Qj (ov Y) Zdx tI3 Y)<|bE h fun q2 h_q2 h=>Rq Y (ZaC (ov Y) (ov Y) h_q2)<|R2 Ze0 Y<|R2 ZT Y<|Ra Y<|Za<|?_
 obtain rfl := rt h
 exact Zo (ZS Y (.one<|rb Y))
theorem Zia {number : Int} {r : Int} (h : ZcF number = some r) :
 CSpec Tryz.prog gl0 132 [.int .i64 number] (.int .i64 r) := by
 unfold ZcF at h
 replace h := Qm h
 refine So Tryz.func132 Y fun w0 A=>Tr<|Ra Y<|Za<|Tr<|R_q (.agg<|List.map C3 (#v[583, 1464, 2631, 3512] : Vector Int 4).toList) Y (Zd5 (ys := [_, _, _, _]) Zmu Znk (.cons (cvs (ov Y)<|Zk Y)<|.cons (cvs (ov Y)<|Zk Y)<|.cons (cvs (ov Y)<|Zk Y)<|.cons (cvs (ov Y)<|Zk Y) .nil) Y)<|Rm Y<|bE h fun q h_q h=>Rq Y (ZaC (ov Y) (ov Y) h_q)<|bE h fun x h_x h=>Rq Y (ZiL (ov Y) (ov Y) Zmu tS3 h_x)<|Ra Y<|Za<|?_
 obtain rfl := rt h
 exact Zo (ZS Y (.one<|rb Y))
theorem ZjV {f : Vector Int 64} {r : Int} (h : Zfr f = some r) :
 CSpec Tryz.prog gl0 133 [.agg (List.map C40 f.toList)] (.int .i64 r) := by
 unfold Zfr at h
 replace h := Qm h
 refine So Tryz.func133 Y fun w0 A=>Tr<|Rq Y (JG (cva<|ov Y) arL tZ_42<|arD fun _ => Y)<|Ra Y<|Za<|K1 1 Y<|Tr<|Ra Y<|Za<|I1 (fun x=>⟨[(3, .int .i64 x)], []⟩) h (fun h=>?_) fun x h=>?_
 ·
  refine Tr<|Ra Y<|Za<|Zg<|?_
  obtain ⟨r1, hl1, ho1⟩ := QU h
  refine L2 (fun x2 i=>⟨[(1, .rp (List.map C40 f.toList) 0), (3, .int .i64 x2), (4, .int .i64 i)], []⟩) hl1 (ES []) fun n1 x2 i h=>?_
  unfold ZdK at h
  refine Zh<|Tr<|Rm Y<|R2 Zig Y<|Za<|K4 1 3 4 6 Y<|If h Y (fun h=>?_) fun h=>?_
  ·
   exact Zi<|Zh<|Zg<|K3 1 3 4 Y<|Zr<|Rm Y<|Rm Y<|bE h fun x3 h_x3 h=>Rq Y (Xe (ov Y) (ov Y) ZaE h_x3)<|Rq Y (Zd (ov Y) ZbC<|QP<|XR (o := 0) (o' := (i.toNat * 1)) (Zz arL)<|XK h_x3)<|Rq Y (Qj (ov Y) Zdx tI3 Y)<|bE h fun q h_q h=>Rq Y (ZaC (ov Y) (ov Y) h_q)<|R2 ZiY Y<|Ra Y<|Za<|K3 1 3 4 Y<|Zr<|Rm Y<|R2 ZT Y<|Ra Y<|Za<|⟨_, h, ES []⟩
  ·
   refine ZJ<|?_
   replace h := lx h ▸ ho1
   exact ⟨_, h, ES []⟩
 ·
  refine Tr<|Rm Y<|Ra Y<|Za<|?_
  obtain rfl := rt h
  exact Zo (ZS Y (.one<|rb Y))
theorem Ziy {f : Vector Int 64} {r : Int} (h : Zdp f = some r) :
 CSpec Tryz.prog gl0 152 [.agg (List.map C40 f.toList)] (.int .i64 r) := by
 unfold Zdp at h
 replace h := Qm h
 refine So Tryz.func152 Y fun w0 A=>Tr<|Rq Y (JG (cva<|ov Y) arL tZ_42<|arD fun _ => Y)<|Ra Y<|Za<|K1 1 Y<|Tr<|Ra Y<|Za<|I1 (fun rest=>⟨[(3, .int .i64 rest)], []⟩) h (fun h=>?_) fun rest h=>?_
 ·
  refine Tr<|Ra Y<|Za<|Zg<|?_
  obtain ⟨r1, hl1, ho1⟩ := QU h
  refine L2 (fun rest2 i=>⟨[(1, .rp (List.map C40 f.toList) 0), (3, .int .i64 rest2), (4, .int .i64 i)], []⟩) hl1 (ES []) fun n1 rest2 i h=>?_
  unfold Zcq at h
  refine Zh<|Tr<|Rm Y<|R2 ZU Y<|Za<|K4 1 3 4 7 Y<|If h Y (fun h=>?_) fun h=>?_
  ·
   refine Zi<|Zh<|Zg<|K3 1 3 4 Y<|Tr<|Ra Y<|Za<|I1 (fun bit=>⟨[(1, .rp (List.map C40 f.toList) 0), (3, .int .i64 rest2), (4, .int .i64 i), (5, .int .i64 bit)], []⟩) h (fun h=>?_) fun bit h=>?_
   ·
    refine Tr<|Rm Y<|R2 ZU Y<|Za<|K5 1 3 4 5 11 Y<|If h Y (fun h=>?_) fun h=>?_
    ·
     exact K4 1 3 4 5 Y<|Zr<|Rm Y<|bE h fun q h_q h=>Rq Y (Zge (ov Y) (ov Y) h_q)<|bE h fun x h_x h=>Rq Y (Xe (ov Y) (ov Y) ZaE h_x)<|Rq Y (Zd (ov Y) ZbC<|QP<|XR (o := 0) (o' := (q.toNat * 1)) (Zz arL)<|XK h_x)<|Rq Y (Qj (ov Y) Zdx tI3 Y)<|Rm Y<|bE h fun q2 h_q2 h=>Rq Y (ZaC (ov Y) (ov Y) h_q2)<|R2 Zay Y<|bE h fun q3 h_q3 h=>Rq Y (Zag (ov Y) (ov Y) h_q3)<|R2 Za7 Y<|Ra Y<|Za<|⟨_, h, ES []⟩
    ·
     exact Zi<|⟨_, h, ES []⟩
   ·
    refine Tr<|Rm Y<|R2 Ze0 Y<|Rm Y<|R2 ZT Y<|Ra Y<|Za<|K3 1 3 4 Y<|Tr<|Rm Y<|R2 Zhm Y<|Za<|K4 1 3 4 27 Y<|If h Y (fun h=>?_) fun h=>?_
    ·
     exact K3 1 3 4 Y<|Zr<|Rm Y<|R2 ZiY Y<|Ra Y<|Za<|K3 1 3 4 Y<|Zr<|Rm Y<|R2 ZT Y<|Ra Y<|Za<|⟨_, h, ES []⟩
    ·
     exact Zi<|K3 1 3 4 Y<|Zr<|Rm Y<|R2 ZT Y<|Ra Y<|Za<|⟨_, h, ES []⟩
  ·
   refine ZJ<|?_
   replace h := lx h ▸ ho1
   exact ⟨_, h, ES []⟩
 ·
  refine Tr<|Rm Y<|Ra Y<|Za<|?_
  obtain rfl := rt h
  exact Zo (ZS Y (.one<|rb Y))
theorem ZhH {f : Vector Int 64} {r : (Vector Int 64)} (h : Zbp f = some r) :
 CSpec Tryz.prog gl0 134 [.agg (List.map C40 f.toList)] (.agg (List.map C40 r.toList)) := by
 unfold Zbp at h
 replace h := Qm h
 refine So Tryz.func134 Y fun w0 A=>Tr<|Rx Y (Zjo 0 Y (ov Y) Ju arL)<|Rx Y (Z9 (row := (List.map C40 (Vector.replicate 64 0).toList)) 1 Y ZgD Y tZ_42)<|Za<|K2 1 2 Y<|Tr<|Rq Y (Qo (ov Y) Y Y Y Ju (Q4<|Zz arL) arL (hns := (nsM fun _ => Y)))<|bE h fun y h_y h=>Rq Y (Zp (Ziy h_y)<|.cons (ov Y) (.aggB<|arD fun _ => Y) .nil)<|Ra Y<|Za<|K3 1 2 3 Y<|Tr<|Rm Y<|bE h fun q h_q h=>Rq Y (Zge (ov Y) (ov Y) h_q)<|bE h fun y2 h_y2 h=>Rq Y (Zp (Zc5 h_y2)<|.cons (ov Y) (.b Y) .nil)<|Rq Y (Qj (ov Y) tI3 Zdx Y)<|Rm Y<|bE h fun q2 h_q2 h=>Rq Y (ZaC (ov Y) (ov Y) h_q2)<|bE h fun y3 h_y3 h=>Rq Y (Zp (Zc5 h_y3)<|.cons (ov Y) (.b Y) .nil)<|Rq Y (Qj (ov Y) tI3 Zdx Y)<|bE h fun x h_x h=>Rq Y (JW (ov Y) (ov Y) ZaE Y Y h_x)<|Rx Y (Zj (ov Y) (ov Y) (Ze ZbC) Y Y Y (arB h_x) (Zb Y)<|arS h_x)<|bE h fun x2 h_x2 h=>Rq Y (JW (ov Y) (ov Y) ZaE Y Y h_x2)<|Rx Y (Zj (ov Y) (ov Y) (Ze ZbC) Y Y Y (arB h_x2) (Zb Y)<|arS h_x2)<|Za<|K2 1 2 Y<|Tr<|Rq Y (Qo (ov Y) Y Y Y Ju (Q4<|Zz arL) arL (hns := (nsM fun _ => Y)))<|Rx Y (Zj (ov Y) (ov Y) (Zv Ju arL) Y Y Y (Za4 (Zz arL) arL) (Zb<|arC fun _ => Y)<|JE<|Eq.trans arL<|Eq.symm arL)<|Za<|?_
 obtain rfl := rt h
 exact Zo (ZS Y (.one<|.agg Y Y Y Y Ju (Q4<|Zz arL) arL (pwB<|arD fun _ => Y) (hns := (nsM fun _ => Y))))
theorem Zih {f : Vector Int 64} {r : (Vector Int 64)} (h : ZcI f = some r) :
 CSpec Tryz.prog gl0 101 [.agg (List.map C40 f.toList)] (.agg (List.map C40 r.toList)) := by
 unfold ZcI at h
 replace h := Qm h
 refine So Tryz.func101 Y fun w0 A=>Tr<|Rx Y (Zjo 0 Y (ov Y) Ju arL)<|Rx Y (Z9 (row := (List.map C40 (Vector.replicate 64 0).toList)) 1 Y ZgD Y tZ_42)<|Za<|I1 (fun f2=>⟨[(1, .ptr 0 1 0 0), (2, .ptr 1 1 0 0)], [some ⟨42, [(List.map C40 f2.toList)]⟩, some ⟨42, [(List.map C40 (Vector.replicate 64 0).toList)]⟩]⟩) h (fun h=>?_) fun f2 h=>?_
 ·
  refine K2 1 2 Y<|Tr<|Ra Y<|Za<|Zg<|?_
  obtain ⟨r1, hl1, ho1⟩ := QU h
  refine L2 (fun f3 i=>⟨[(1, .ptr 0 1 0 0), (2, .ptr 1 1 0 0), (3, .int .i64 i)], [some ⟨42, [(List.map C40 f3.toList)]⟩, some ⟨42, [(List.map C40 (Vector.replicate 64 0).toList)]⟩]⟩) hl1 (ES [some 0, some 1]) fun n1 f3 i h=>?_
  unfold Zbn at h
  refine Zh<|Tr<|Rm Y<|R2 Zig Y<|Za<|K4 1 2 3 5 Y<|If h Y (fun h=>?_) fun h=>?_
  ·
   exact Zi<|Zh<|Zg<|K3 1 2 3 Y<|Zr<|Rm Y<|Rm Y<|bE h fun x h_x h=>Rq Y (JW (ov Y) (ov Y) ZaE Y Y h_x)<|Rq Y (Zs (ov Y) Y Y Y ZbC<|QP<|XR (o := 0) (o' := (i.toNat * 1)) (Zz arL)<|XK h_x)<|Rq Y (Qj (ov Y) Zdx tI3 Y)<|bE h fun q h_q h=>Rq Y (ZaC (ov Y) (ov Y) h_q)<|bE h fun y h_y h=>Rq Y (Zp (Zc5 h_y)<|.cons (ov Y) (.b Y) .nil)<|Rq Y (Qj (ov Y) tI3 Zdx Y)<|bE h fun x2 h_x2 h=>Rq Y (JW (ov Y) (ov Y) ZaE Y Y h_x2)<|Rx Y (Zj (ov Y) (ov Y) (Ze ZbC) Y Y Y (arB h_x2) (Zb Y)<|arS h_x2)<|Za<|K3 1 2 3 Y<|Zr<|Rm Y<|R2 ZT Y<|Ra Y<|Za<|⟨_, h, ES [some 0, some 1]⟩
  ·
   refine ZJ<|?_
   replace h := lx h ▸ ho1
   exact ⟨_, h, ES [some 0, some 1]⟩
 ·
  refine Tr<|Rq Y (Qo (ov Y) Y Y Y Ju (Q4<|Zz arL) arL (hns := (nsM fun _ => Y)))<|bE h fun y2 h_y2 h=>Rq Y (Zp (Zg0 h_y2)<|.cons (ov Y) (.aggB<|arD fun _ => Y) .nil)<|bE h fun y3 h_y3 h=>Rq Y (Zp (Zia h_y3)<|.cons (ov Y) (.b Y) .nil)<|Rq Y (Qj (ov Y) tI3 Zdx Y)<|bE h fun x3 h_x3 h=>Rq Y (JW (ov Y) (ov Y) ZaE Y Y h_x3)<|Rx Y (Zj (ov Y) (ov Y) (Ze ZbC) Y Y Y (arB h_x3) (Zb Y)<|arS h_x3)<|Za<|K2 1 2 Y<|Tr<|Rq Y (Qo (ov Y) Y Y Y Ju (Q4<|Zz arL) arL (hns := (nsM fun _ => Y)))<|bE h fun y4 h_y4 h=>Rq Y (Zp (ZjV h_y4)<|.cons (ov Y) (.aggB<|arD fun _ => Y) .nil)<|bE h fun y5 h_y5 h=>Rq Y (Zp (Zc5 h_y5)<|.cons (ov Y) (.b Y) .nil)<|Rq Y (Qj (ov Y) tI3 Zdx Y)<|bE h fun x4 h_x4 h=>Rq Y (JW (ov Y) (ov Y) ZaE Y Y h_x4)<|Rx Y (Zj (ov Y) (ov Y) (Ze ZbC) Y Y Y (arB h_x4) (Zb Y)<|arS h_x4)<|Za<|K2 1 2 Y<|Tr<|Rq Y (Qo (ov Y) Y Y Y Ju (Q4<|Zz arL) arL (hns := (nsM fun _ => Y)))<|bE h fun y6 h_y6 h=>Rq Y (Zp (ZhH h_y6)<|.cons (ov Y) (.aggB<|arD fun _ => Y) .nil)<|Rx Y (Zj (ov Y) (ov Y) (Zv Ju arL) Y Y Y (Za4 (Zz arL) arL) (Zb<|arC fun _ => Y)<|JE<|Eq.trans arL<|Eq.symm arL)<|Za<|?_
  obtain rfl := rt h
  exact Zo (ZS Y (.one<|.agg Y Y Y Y Ju (Q4<|Zz arL) arL (pwB<|arD fun _ => Y) (hns := (nsM fun _ => Y))))
theorem ZjC {number : Int} {data : List Int} {r : (Vector Int 64) × Int} (h : Ze7 number data = some r) :
 CSpec Tryz.prog gl0 61 [.int .i64 number, .sl 3 (List.map R3 data)] (.tuple [.agg (List.map C40 r.1.toList), .int .i64 r.2]) := by
 unfold Ze7 at h
 replace h := Qm h
 refine So Tryz.func61 Y fun w0 A=>Tr<|Rx Y (Z9 (row := (List.map C40 (Vector.replicate 64 0).toList)) 0 Y ZgD Y tZ_42)<|Ra Y<|Za<|Zh<|K3 0 1 4 Y<|Tr<|Rm Y<|R2 ZU Y<|Rm Y<|Rq Y (.guarded ((decide (number < 0)) == false) Y Y Y Y fun h => Zc<|ov Y)<|Rq Y (.guarded ((decide (number < 0)) == false) Y Y Y Y fun h => Zhm (ow Y h)<|ov Y)<|Rq Y (ZdY (ov Y) fun hp=>ow Y<|gF hp)<|Za<|K4 0 1 4 14 Y<|If h Y (fun h=>?_) fun h=>?_
 ·
  refine K1 4 Y<|Tr<|R_q (.agg<|List.map C40 (#v[0, 0, 0, 0, 0, 0, 0, 0, 0, 0, 0, 0, 0, 0, 0, 0, 0, 0, 0, 0, 0, 0, 0, 0, 0, 0, 0, 0, 0, 0, 0, 0, 0, 0, 0, 0, 0, 0, 0, 0, 0, 0, 0, 0, 0, 0, 0, 0, 0, 0, 0, 0, 0, 0, 0, 0, 0, 0, 0, 0, 0, 0, 0, 0] : Vector Int 64).toList) Y (Zd5 (ys := [_, _, _, _, _, _, _, _, _, _, _, _, _, _, _, _, _, _, _, _, _, _, _, _, _, _, _, _, _, _, _, _, _, _, _, _, _, _, _, _, _, _, _, _, _, _, _, _, _, _, _, _, _, _, _, _, _, _, _, _, _, _, _, _]) ZaE ZgD .nil Y)<|Rx Y (Zj (ov Y) (ov Y) (Zv Ju arL) Y Y Y (Za4 (Zz arL) arL) (Zb<|arC fun _ => Y)<|JE<|Eq.trans arL<|Eq.symm arL)<|Ra Y<|Za<|?_
  obtain rfl := rt h
  exact Zo (ZS Y (.two (.agg Y Y Y Y Ju (Q4<|Zz arL) arL (pwB<|arD fun _ => Y) (hns := (nsM fun _ => Y)))<|rb Y))
 ·
  refine Zi<|Zh<|K3 0 1 4 Y<|Tr<|Rm Y<|Rl tZ_3 QB Y<|R2 Xa Y<|Za<|K4 0 1 4 18 Y<|If h Y (fun h=>?_) fun h=>?_
  ·
   refine K1 4 Y<|Tr<|R_q (.agg<|List.map C40 (#v[0, 0, 0, 0, 0, 0, 0, 0, 0, 0, 0, 0, 0, 0, 0, 0, 0, 0, 0, 0, 0, 0, 0, 0, 0, 0, 0, 0, 0, 0, 0, 0, 0, 0, 0, 0, 0, 0, 0, 0, 0, 0, 0, 0, 0, 0, 0, 0, 0, 0, 0, 0, 0, 0, 0, 0, 0, 0, 0, 0, 0, 0, 0, 0] : Vector Int 64).toList) Y (Zd5 (ys := [_, _, _, _, _, _, _, _, _, _, _, _, _, _, _, _, _, _, _, _, _, _, _, _, _, _, _, _, _, _, _, _, _, _, _, _, _, _, _, _, _, _, _, _, _, _, _, _, _, _, _, _, _, _, _, _, _, _, _, _, _, _, _, _]) ZaE ZgD .nil Y)<|Rx Y (Zj (ov Y) (ov Y) (Zv Ju arL) Y Y Y (Za4 (Zz arL) arL) (Zb<|arC fun _ => Y)<|JE<|Eq.trans arL<|Eq.symm arL)<|Ra Y<|Za<|?_
   obtain rfl := rt h
   exact Zo (ZS Y (.two (.agg Y Y Y Y Ju (Q4<|Zz arL) arL (pwB<|arD fun _ => Y) (hns := (nsM fun _ => Y)))<|rb Y))
  ·
   refine Zi<|K3 0 1 4 Y<|Tr<|R_q (.agg<|List.map C40 (#v[0, 0, 0, 0, 0, 0, 0, 0, 0, 0, 0, 0, 0, 0, 0, 0, 0, 0, 0, 0, 0, 0, 0, 0, 0, 0, 0, 0, 0, 0, 0, 0, 0, 0, 0, 0, 0, 0, 0, 0, 0, 0, 0, 0, 0, 0, 0, 0, 0, 0, 0, 0, 0, 0, 0, 0, 0, 0, 0, 0, 0, 0, 0, 0] : Vector Int 64).toList) Y (Zd5 (ys := [_, _, _, _, _, _, _, _, _, _, _, _, _, _, _, _, _, _, _, _, _, _, _, _, _, _, _, _, _, _, _, _, _, _, _, _, _, _, _, _, _, _, _, _, _, _, _, _, _, _, _, _, _, _, _, _, _, _, _, _, _, _, _, _]) ZaE ZgD .nil Y)<|Rx Y (Z9 (row := (List.map C40 (Vector.replicate 64 0).toList)) 1 Y ZgD Y tZ_42)<|Rx Y (Zj (ov Y) (ov Y) (Zv Ju arL) Y Y Y (Za4 (Zz arL) arL) (Zb<|arC fun _ => Y)<|JE<|Eq.trans arL<|Eq.symm arL)<|Za<|K4 0 1 4 6 Y<|Tr<|Rm Y<|bE h fun q h_q h=>Rq Y (ZaC (ov Y) (ov Y) h_q)<|Rq Y (Qj (ov Y) tI3 Zdx Y)<|Rm Y<|bE h fun q2 h_q2 h=>Rq Y (Zge (ov Y) (ov Y) h_q2)<|Rq Y (Qj (ov Y) tI3 Zdx Y)<|bE h fun x h_x h=>Rq Y (JW (ov Y) (ov Y) ZaE Y Y h_x)<|Rx Y (Zj (ov Y) (ov Y) (Ze ZbC) Y Y Y (arB h_x) (Zb Y)<|arS h_x)<|bE h fun x2 h_x2 h=>Rq Y (JW (ov Y) (ov Y) ZaE Y Y h_x2)<|Rx Y (Zj (ov Y) (ov Y) (Ze ZbC) Y Y Y (arB h_x2) (Zb Y)<|arS h_x2)<|Za<|J1 (fun j => (.inr j)) (fun f=>⟨[(4, .ptr 0 1 0 0), (6, .ptr 1 1 0 0)], [some ⟨42, [(List.map C40 (Vector.replicate 64 0).toList)]⟩, some ⟨42, [(List.map C40 f.toList)]⟩]⟩) h (fun h=>?_) fun f h=>?_
   ·
    refine K3 1 4 6 Y<|Tr<|Rm Y<|Rl tZ_3 QB Y<|Rm Y<|Za<|Zg<|?_
    obtain ⟨r1, hl1, ho1⟩ := QU h
    refine L2 (fun f2 i=>⟨[(4, .ptr 0 1 0 0), (6, .ptr 1 1 0 0), (29, .sl 3 (List.map R3 data)), (30, .int .i64 (data.length : Int)), (31, .int .i64 i)], [some ⟨42, [(List.map C40 (Vector.replicate 64 0).toList)]⟩, some ⟨42, [(List.map C40 f2.toList)]⟩]⟩) hl1 (ES [some 0, some 1]) fun n1 f2 i h=>?_
    unfold ZdJ at h
    refine Tr<|R2 ZU Y<|Za<|Zh<|If h Y (fun h=>?_) fun h=>?_
    ·
     refine Zi<|Zh<|Zg<|K5 4 6 29 30 31 Y<|Tr<|Rm Y<|bE h fun x3 h_x3 h=>Rq Y (Z4 (ov Y) (ov Y) QB h_x3)<|Rq Y (Zd (ov Y) tS3 Y)<|Ra Y<|Ra Y<|Za<|Zh<|K7 4 6 7 8 29 30 31 Y<|Tr<|Rm Y<|R2 ZU Y<|Rm Y<|Rq Y (.guarded ((decide (x3 < 0)) == false) Y Y Y Y fun h => Zc<|ov Y)<|Rq Y (.guarded ((decide (x3 < 0)) == false) Y Y Y Y fun h => ZbA (ow Y h)<|ov Y)<|Rq Y (ZdY (ov Y) fun hp=>ow Y<|gF hp)<|Za<|K8 4 6 7 8 29 30 31 41 Y<|If h Y (fun h=>?_) fun h=>?_
     ·
      refine K1 4 Y<|Tr<|R_q (.agg<|List.map C40 (#v[0, 0, 0, 0, 0, 0, 0, 0, 0, 0, 0, 0, 0, 0, 0, 0, 0, 0, 0, 0, 0, 0, 0, 0, 0, 0, 0, 0, 0, 0, 0, 0, 0, 0, 0, 0, 0, 0, 0, 0, 0, 0, 0, 0, 0, 0, 0, 0, 0, 0, 0, 0, 0, 0, 0, 0, 0, 0, 0, 0, 0, 0, 0, 0] : Vector Int 64).toList) Y (Zd5 (ys := [_, _, _, _, _, _, _, _, _, _, _, _, _, _, _, _, _, _, _, _, _, _, _, _, _, _, _, _, _, _, _, _, _, _, _, _, _, _, _, _, _, _, _, _, _, _, _, _, _, _, _, _, _, _, _, _, _, _, _, _, _, _, _, _]) ZaE ZgD .nil Y)<|Rx Y (Zj (ov Y) (ov Y) (Zv Ju arL) Y Y Y (Za4 (Zz arL) arL) (Zb<|arC fun _ => Y)<|JE<|Eq.trans arL<|Eq.symm arL)<|Ra Y<|Za<|?_
      replace h := lx h ▸ ho1
      obtain rfl := rt h
      exact Zo (ZS Y (.two (.agg Y Y Y Y Ju (Q4<|Zz arL) arL (pwB<|arD fun _ => Y) (hns := (nsM fun _ => Y)))<|rb Y))
     ·
      exact Zi<|K7 4 6 7 8 29 30 31 Y<|Zr<|Rm Y<|R2 ZT Y<|Rm Y<|Rq Y (Qj (ov Y) tI3 Zdx Y)<|bE h fun x4 h_x4 h=>Rq Y (JW (ov Y) (ov Y) ZaE Y Y h_x4)<|Rx Y (Zj (ov Y) (ov Y) (Ze ZbC) Y Y Y (arB h_x4) (Zb Y)<|arS h_x4)<|Za<|K5 4 6 29 30 31 Y<|Zr<|R2 ZT Y<|Rm Y<|Za<|⟨_, h, ES [some 0, some 1]⟩
    ·
     refine ZJ<|?_
     replace h := lx h ▸ ho1
     exact ⟨_, h, ES [some 0, some 1]⟩
   ·
    replace h := elr h
    replace h := t1i h
    refine Tr<|Rq Y (Qo (ov Y) Y Y Y Ju (Q4<|Zz arL) arL (hns := (nsM fun _ => Y)))<|bE h fun y h_y h=>Rq Y (Zp (Zih h_y)<|.cons (ov Y) (.aggB<|arD fun _ => Y) .nil)<|Rx Y (Zj (ov Y) (ov Y) (Zv Ju arL) Y Y Y (Za4 (Zz arL) arL) (Zb<|arC fun _ => Y)<|JE<|Eq.trans arL<|Eq.symm arL)<|Ra Y<|Za<|?_
    obtain rfl := rt h
    exact Zo (ZS Y (.two (.agg Y Y Y Y Ju (Q4<|Zz arL) arL (pwB<|arD fun _ => Y) (hns := (nsM fun _ => Y)))<|rb Y))
theorem Zix {x : Int} {y : Int} {r : Int × Int} (h : Zdo x y = some r) :
 CSpec Tryz.prog gl0 130 [.int .u64 x, .int .u64 y] (.tuple [.int .u64 r.1, .int .u64 r.2]) := by
 unfold Zdo at h
 replace h := Qm h
 refine So Tryz.func130 Y fun w0 A=>Tr<|Ra Y<|Ra Y<|Za<|K2 0 1 Y<|Tr<|Rm Y<|R2 Za7 Y<|Ra Y<|Za<|K3 0 1 6 Y<|Tr<|Rm Y<|bE h fun q h_q h=>Rq Y (Zag (ov Y) (ov Y) h_q)<|Ra Y<|Za<|K4 0 1 6 7 Y<|Tr<|Rm Y<|R2 Za7 Y<|Ra Y<|Za<|K5 0 1 6 7 8 Y<|Tr<|Rm Y<|bE h fun q2 h_q2 h=>Rq Y (Zag (ov Y) (ov Y) h_q2)<|Ra Y<|Za<|K6 0 1 6 7 8 9 Y<|Tr<|Rm Y<|Rm Y<|R2 Ze0 Y<|Ra Y<|Za<|K7 0 1 6 7 8 9 10 Y<|Tr<|Rm Y<|Rm Y<|R2 Ze0 Y<|Rm Y<|bE h fun q3 h_q3 h=>Rq Y (Zag (ov Y) (ov Y) h_q3)<|R2 ZT Y<|Ra Y<|Za<|K6 0 1 6 7 9 11 Y<|Tr<|Rm Y<|R2 Za7 Y<|Ra Y<|Za<|K7 0 1 6 7 9 11 12 Y<|Tr<|Rm Y<|bE h fun q4 h_q4 h=>Rq Y (Zag (ov Y) (ov Y) h_q4)<|Ra Y<|Za<|K7 0 1 6 7 9 12 13 Y<|Tr<|Rm Y<|Rm Y<|Rm Y<|R2 Ze0 Y<|R2 ZT Y<|Ra Y<|Za<|K6 0 1 7 9 12 13 Y<|Tr<|Rm Y<|Rm Y<|R2 Ze0 Y<|Rm Y<|R2 ZT Y<|Rm Y<|bE h fun q5 h_q5 h=>Rq Y (Zag (ov Y) (ov Y) h_q5)<|R2 ZT Y<|Ra Y<|Za<|K3 0 1 4 Y<|Tr<|Rm Y<|Rm Y<|R2 Ze0 Y<|Ra Y<|Za<|?_
 obtain rfl := rt h
 exact Zo (ZS Y (.two (rb Y)<|rb Y))
theorem ZjJ {x : Int} {y : Int} {r : Int × Int} (h : Ze8 x y = some r) :
 CSpec Tryz.prog gl0 100 [.int .u64 x, .int .u64 y] (.tuple [.int .u64 r.1, .int .u64 r.2]) := by
 unfold Ze8 at h
 replace h := Qm h
 refine So Tryz.func100 Y fun w0 A=>Tr<|Ra Y<|Ra Y<|Za<|Zh<|Zl8<|Zi<|K2 0 1 Y<|Tr<|Rm Y<|Rm Y<|bE h fun y2 h_y2 h=>Rq Y (Zp (Zix h_y2)<|.cons (ov Y) (.b Y)<|.cons (ov Y) (.b Y) .nil)<|Rm Y<|Rq Y (Zn (ov Y) Y)<|Rq Y (Zn (ov Y) Y)<|Ra Y<|Ra Y<|Za<|K2 8 9 Y<|Tr<|Rm Y<|Rm Y<|Ra Y<|Ra Y<|Za<|?_
 obtain rfl := rt h
 exact Zo (ZS Y (.two (rb Y)<|rb Y))
theorem Zl {x : List Int} {count : Int} {r : (List Int)} (h : QV x count = some r) :
 GSpec Tryz.prog gl0 55 [.sl 5 (List.map R5 x), .int .i64 count] [] (.own 0 r.length) [some ⟨5, List.map R5 r⟩] := by
 unfold QV at h
 replace h := Qm h
 refine QF (by kernel_rfl) Tryz.func55 Y Y<|?_
 intro w0 A W φ0
 refine Tr<|Ra Y<|Za<|Zh<|K2 0 1 Y<|Tr<|Rm Y<|R2 ZU Y<|Za<|K3 0 1 10 Y<|If h Y (fun h=>?_) fun h=>?_
 ·
  exact (ZlJ h).elim
 ·
  refine Zi<|K2 0 1 Y<|Tr<|Rm Y<|Rl tZ_5 Qp Y<|Rq Y (Qj (ov Y) tI3 Zfp Y)<|Rm Y<|Rq Y (Qj (ov Y) tI3 Zfp Y)<|bE h fun y h_y h=>Rq Y (Zp (ZjJ h_y)<|.cons (ov Y) (.b Y)<|.cons (ov Y) (.b Y) .nil)<|Rm Y<|Rq Y (Zn (ov Y) Y)<|Rq Y (Zn (ov Y) Y)<|Ra Y<|Ra Y<|Za<|Zh<|K3 0 5 6 Y<|Tr<|Rm Y<|R2 ZbA Y<|Rm Y<|Rq Y (.guarded ((decide (0 < y.1)) == false) Y Y Y Y fun h => Zc<|ov Y)<|Rq Y (.guarded ((decide (0 < y.1)) == false) Y Y Y Y fun h => ZbA (ow Y h)<|ov Y)<|Rq Y (ZdY (ov Y) fun hp=>ow Y<|gF hp)<|Za<|K3 0 6 26 Y<|If h Y (fun h=>?_) fun h=>?_
  ·
   exact (ZlJ h).elim
  ·
   refine Zi<|K2 0 6 Y<|Tr<|Rm Y<|Rq Y (Qj (ov Y) Zfp tI3 Y)<|bE h fun l h_l h=>Rx Y (Zat [none] (r := 0) (f := R5) (z0 := 0) Y (ov Y) (ov Y) Qp Y tZ5 Y Y h_l)<|Ra Y<|Za<|K2 0 7 Y<|Tr<|Rm Y<|Rm Y<|Rx Y (ZlV (f := R5) (g := C5) (xs := l) (ys := x) (ov Y) (Qs (ov Y) tZ_5) Y Y (fun _=>Y) (fun _=>Y) (fun _=>Y) Qp)<|Ra Y<|Za<|I1 (fun newslice=>⟨[(7, .own 0 newslice.length)], [some ⟨5, List.map R5 newslice⟩]⟩) h (fun h=>?_) fun newslice h=>?_
   ·
    refine Zg<|?_
    obtain ⟨r1, hl1, ho1⟩ := QU h
    refine L2 (fun newslice2 n=>⟨[(7, .own 0 newslice2.length), (8, .int .i64 n)], [some ⟨5, List.map R5 newslice2⟩]⟩) hl1 (ES [some 0]<|sr 7 Y (Zb2 (Eq.symm<|(ZgB ..).trans Y) Y)<|sd 8 Y Y sn) fun n1 newslice2 n h=>?_
    unfold Q3 at h
    refine Zh<|Tr<|Rm Y<|Rm Y<|Rq Y (Zel (ov Y) Y Y Qp)<|R2 ZU Y<|Za<|K3 7 8 37 Y<|If h Y (fun h=>?_) fun h=>?_
    ·
     exact Zi<|Zg<|K2 7 8 Y<|Qf (cw := md0) (by kernel_rfl)<|D1 1 Zc Y<|D1 2 Zc Y<|bE h fun u h_u h=>Dq 3 Y (Zkx (ov Y) Y Y Qp (oi<|ov Y) on h_u)<|D1 4 Zc Y<|D1 5 Zc Y<|bE h fun u2 h_u2 h=>Dq 6 Y (Zkx (ov Y) Y Y Qp on (oi<|ov Y) h_u2)<|Z3 0 _ Y (by kernel_rfl) Y Y (fun hp'=>Zc<|ov Y)<|Do 7 Y (ZkD (g := C5) (ov Y) (ov Y) Y Y (fun _=>Y) (fun _=>Y) (fun _=>Y) Qp (ZcS h_u)<|ZcS h_u2)<|D2 8 ZT Y<|D1 9 Ql Y<|Dd<|⟨_, h, ES [some 0]<|sr 7 Y (Zb2 (Eq.symm<|(Zcx (ZcS h_u) (ZcS h_u2)).trans Y) Y)<|sd 8 Y Y sn⟩
    ·
     refine ZJ<|?_
     replace h := lx h ▸ ho1
     exact ⟨_, h, ES [some 0]⟩
   ·
    refine Tr<|Rm Y<|Ra Y<|Za<|?_
    obtain rfl := rt h
    exact Zo<|JN [some 0] Y (.cons (.tmp Y) .nil) (.cons Y (roM D5) .nil) Y Y<|.own _ Y
theorem Zgs {sectors : Int} {slots : Int} {limit : Int} {r : api_Memory × Int} (h : J9 sectors slots limit = some r) :
 CSpec Tryz.prog gl0 10 [.int .i64 sectors, .int .i64 slots, .int .i64 limit] (.tuple [.agg [.int .i64 r.1.Slots, .int .i64 r.1.Limit, .sl 49 (List.map R49 r.1.Sectors), .sl 3 (List.map R3 r.1.Wear), .sl 4 (List.map R4 r.1.Bad)], .int .i64 r.2]) := by
 unfold J9 at h
 replace h := Qm h
 refine So Tryz.func10 Y fun w0 A=>Tr<|Rx Y (Z9 (row := [_, _, _, _, _]) 0 Y ZaP Y tZ_26)<|Ra Y<|Za<|Zh<|K4 0 1 2 6 Y<|Tr<|Rm Y<|bE h fun y h_y h=>Rq Y (Zp (QC h_y)<|.cons (ov Y) (.b Y)<|.cons (ov Y) (.b Y)<|.cons (ov Y) (.b Y) .nil)<|R1 Ji Y<|Rm Y<|Rq Y (.guarded ((!y) == false) Y Y Y Y fun h => Zc<|ov Y)<|bE h fun y2 h_y2 h=>Rq Y (.guarded ((!y) == false) Y Y Y Y fun h => Zp (QC<|gdT h_y2 h)<|.cons (ow Y h) (.b Y)<|.cons (ov Y) (.b Y)<|.cons (ov Y) (.b Y) .nil)<|Rq Y (.guarded ((!y) == false) Y Y Y Y fun h => Ji<|ow Y h)<|Rq Y (ZdY (ov Y) fun hp=>ow Y<|gF hp)<|Rm Y<|Rq Y (.guarded (((!y) || (!y2)) == false) Y Y Y Y fun h => Zc<|ov Y)<|bE h fun y3 h_y3 h=>Rq Y (.guarded (((!y) || (!y2)) == false) Y Y Y Y fun h => Zp (QC<|gdT h_y3 h)<|.cons (ow Y h) (.b Y)<|.cons (ov Y) (.b Y)<|.cons (ov Y) (.b Y) .nil)<|Rq Y (.guarded (((!y) || (!y2)) == false) Y Y Y Y fun h => Ji<|ow Y h)<|Rq Y (ZdY (ov Y) fun hp=>ow Y<|gF hp)<|Za<|K5 0 1 2 6 21 Y<|If h Y (fun h=>?_) fun h=>?_
 ·
  refine K1 6 Y<|Tr<|Rq Y (Xo (ys := [_, _, _, _, _]) Zfd Zfh ZaP .nil Y)<|Rx Y (Zj (ov Y) (ov Y) (Zv QA Y) Y Y Y (Nat.le_of_ble_eq_true Y) (Zb Y) Y)<|Ra Y<|Za<|?_
  obtain rfl := rt h
  exact Zo (ZS Y (.two (.agg Y Y Y Y QA Y Y<|.cons (Dat.view<|.b Y)<|.cons (Dat.view<|.b Y)<|.cons (View.nils 49)<|.cons (View.nils 3)<|.cons (View.nils 4) .nil)<|rb Y))
 ·
  refine Zi<|I2 (fun Wear Bad=>⟨[(0, .int .i64 sectors), (1, .int .i64 slots), (6, .ptr 0 1 0 0), (8, .ptr 1 1 0 0)], [some ⟨26, [[.int .i64 0, .int .i64 0, .nils, .nils, .nils]]⟩, some ⟨26, [[.int .i64 slots, .int .i64 limit, .nils, .own 2 Wear.length, .own 3 Bad.length]]⟩, some ⟨3, List.map R3 Wear⟩, some ⟨4, List.map R4 Bad⟩]⟩) h (fun h=>?_) fun Wear Bad h=>?_
  ·
   refine K4 0 1 2 6 Y<|Qf (cw := md0) (by kernel_rfl)<|Z3 0 _ Y (by kernel_rfl) Y Y (fun hp'=>Zc<|ov Y)<|Z3 1 _ Y (by kernel_rfl) Y Y (fun hp'=>Zc<|ov Y)<|Z3 2 _ Y (by kernel_rfl) Y Y (fun hp'=>Zc<|ov Y)<|Z3 4 _ Y (by kernel_rfl) Y Y (fun hp'=>Zc<|ov Y)<|bE h fun l h_l h=>bE h fun l2 h_l2 h=>Zkc [3, 5, 7] (by kernel_rfl)<|.w Y Y Y (fun _=>Ext.app) (fun h=>by cases h) (Zat [none] (r := 1) (f := R3) (z0 := 0) Y (ov Y) (ov Y) QB Y tZ3 Y Y h_l) ?_<|.w Y Y Y (fun _=>Ext.app) (fun h=>by cases h) (Zat [none] (r := 1) (f := R4) (z0 := false) Y (ov Y) (ov Y) ZdV Y tZ4 Y Y h_l2) ?_<|.w Y Y Y (fun _=>Ext.app) (fun h=>by cases h) (Z9 (row := [_, _, _, _, _]) 1 Y ZaP Y tZ_26) ?_ .nil
   ·
    refine Zkw 5 7 Y Y (by kernel_rfl) Y Y Y Y (fun _=>Ext.app) (fun _=>Ext.app) (fun h=>by cases h) (fun h=>by cases h) (Zat [none] (r := 2) (f := R4) (z0 := false) Y (ov Y) (ov Y) ZdV Y tZ4 Y Y h_l2) (Z9 (row := [_, _, _, _, _]) 2 Y ZaP Y tZ_26) ?_ ?_
    ·
     exact Z3 6 _ Y (by kernel_rfl) Y Y (fun hp'=>Xo (ys := [_, _, _, _, _]) Zfd Zfh ZaP (.cons (cvs (ov Y)<|Zk Y)<|.cons (cvs (ov Y)<|Zk Y)<|.cons (cvs (ov Y)<|Zk Y)<|.cons (cvs (ov Y)<|Zk Y) .nil) Y)<|JM 7 _ _ Y (by kernel_rfl) Y Y (fun _=>Ext.app) (fun h=>by cases h) (Z9 (row := [_, _, _, _, _]) 3 Y ZaP Y tZ_26)<|Do 8 Y (Zj (ov Y) (ov Y) (Zv QA Y) Y Y Y (Nat.le_of_ble_eq_true Y) (Zb Y) Y)<|Dd<|⟨_, h, ES [some 0, some 3, some 1, some 2]⟩
    ·
     exact JM 5 _ _ Y (by kernel_rfl) Y Y (fun _=>Ext.app) (fun h=>by cases h) (Zat [none] (r := 3) (f := R4) (z0 := false) Y (ov Y) (ov Y) ZdV Y tZ4 Y Y h_l2)<|Dq 6 Y (Xo (ys := [_, _, _, _, _]) Zfd Zfh ZaP (.cons (cvs (ov Y)<|Zk Y)<|.cons (cvs (ov Y)<|Zk Y)<|.cons (cvs (ov Y)<|Zk Y)<|.cons (cvs (ov Y)<|Zk Y) .nil) Y)<|Do 8 Y (Zj (ov Y) (ov Y) (Zv QA Y) Y Y Y (Nat.le_of_ble_eq_true Y) (Zb Y) Y)<|Dd<|⟨_, h, ES [some 0, some 2, some 1, some 3]⟩
   ·
    refine Zkw 3 7 Y Y (by kernel_rfl) Y Y Y Y (fun _=>Ext.app) (fun _=>Ext.app) (fun h=>by cases h) (fun h=>by cases h) (Zat [none] (r := 2) (f := R3) (z0 := 0) Y (ov Y) (ov Y) QB Y tZ3 Y Y h_l) (Z9 (row := [_, _, _, _, _]) 2 Y ZaP Y tZ_26) ?_ ?_
    ·
     exact Z3 6 _ Y (by kernel_rfl) Y Y (fun hp'=>Xo (ys := [_, _, _, _, _]) Zfd Zfh ZaP (.cons (cvs (ov Y)<|Zk Y)<|.cons (cvs (ov Y)<|Zk Y)<|.cons (cvs (ov Y)<|Zk Y)<|.cons (cvs (ov Y)<|Zk Y) .nil) Y)<|JM 7 _ _ Y (by kernel_rfl) Y Y (fun _=>Ext.app) (fun h=>by cases h) (Z9 (row := [_, _, _, _, _]) 3 Y ZaP Y tZ_26)<|Do 8 Y (Zj (ov Y) (ov Y) (Zv QA Y) Y Y Y (Nat.le_of_ble_eq_true Y) (Zb Y) Y)<|Dd<|⟨_, h, ES [some 0, some 3, some 2, some 1]⟩
    ·
     exact JM 3 _ _ Y (by kernel_rfl) Y Y (fun _=>Ext.app) (fun h=>by cases h) (Zat [none] (r := 3) (f := R3) (z0 := 0) Y (ov Y) (ov Y) QB Y tZ3 Y Y h_l)<|Dq 6 Y (Xo (ys := [_, _, _, _, _]) Zfd Zfh ZaP (.cons (cvs (ov Y)<|Zk Y)<|.cons (cvs (ov Y)<|Zk Y)<|.cons (cvs (ov Y)<|Zk Y)<|.cons (cvs (ov Y)<|Zk Y) .nil) Y)<|Do 8 Y (Zj (ov Y) (ov Y) (Zv QA Y) Y Y Y (Nat.le_of_ble_eq_true Y) (Zb Y) Y)<|Dd<|⟨_, h, ES [some 0, some 2, some 3, some 1]⟩
   ·
    refine Zkw 3 5 Y Y (by kernel_rfl) Y Y Y Y (fun _=>Ext.app) (fun _=>Ext.app) (fun h=>by cases h) (fun h=>by cases h) (Zat [none] (r := 2) (f := R3) (z0 := 0) Y (ov Y) (ov Y) QB Y tZ3 Y Y h_l) (Zat [none] (r := 2) (f := R4) (z0 := false) Y (ov Y) (ov Y) ZdV Y tZ4 Y Y h_l2) ?_ ?_
    ·
     exact JM 5 _ _ Y (by kernel_rfl) Y Y (fun _=>Ext.app) (fun h=>by cases h) (Zat [none] (r := 3) (f := R4) (z0 := false) Y (ov Y) (ov Y) ZdV Y tZ4 Y Y h_l2)<|Dq 6 Y (Xo (ys := [_, _, _, _, _]) Zfd Zfh ZaP (.cons (cvs (ov Y)<|Zk Y)<|.cons (cvs (ov Y)<|Zk Y)<|.cons (cvs (ov Y)<|Zk Y)<|.cons (cvs (ov Y)<|Zk Y) .nil) Y)<|Do 8 Y (Zj (ov Y) (ov Y) (Zv QA Y) Y Y Y (Nat.le_of_ble_eq_true Y) (Zb Y) Y)<|Dd<|⟨_, h, ES [some 0, some 1, some 2, some 3]⟩
    ·
     exact JM 3 _ _ Y (by kernel_rfl) Y Y (fun _=>Ext.app) (fun h=>by cases h) (Zat [none] (r := 3) (f := R3) (z0 := 0) Y (ov Y) (ov Y) QB Y tZ3 Y Y h_l)<|Dq 6 Y (Xo (ys := [_, _, _, _, _]) Zfd Zfh ZaP (.cons (cvs (ov Y)<|Zk Y)<|.cons (cvs (ov Y)<|Zk Y)<|.cons (cvs (ov Y)<|Zk Y)<|.cons (cvs (ov Y)<|Zk Y) .nil) Y)<|Do 8 Y (Zj (ov Y) (ov Y) (Zv QA Y) Y Y Y (Nat.le_of_ble_eq_true Y) (Zb Y) Y)<|Dd<|⟨_, h, ES [some 0, some 1, some 3, some 2]⟩
  ·
   refine I1 (fun Sectors=>⟨[(6, .ptr 0 1 0 0), (8, .ptr 1 1 0 0)], [some ⟨26, [[.int .i64 0, .int .i64 0, .nils, .nils, .nils]]⟩, some ⟨26, [[.int .i64 slots, .int .i64 limit, .own 2 Sectors.length, .own 3 Wear.length, .own 4 Bad.length]]⟩, some ⟨49, List.map O49 Sectors⟩, some ⟨3, List.map R3 Wear⟩, some ⟨4, List.map R4 Bad⟩]⟩) h (fun h=>?_) fun Sectors h=>?_
   ·
    refine Tr<|Rm Y<|Rm Y<|Za<|Zg<|?_
    obtain ⟨r1, hl1, ho1⟩ := QU h
    refine L2 (fun Sectors2 i=>⟨[(1, .int .i64 slots), (6, .ptr 0 1 0 0), (8, .ptr 1 1 0 0), (30, .int .i64 sectors), (31, .int .i64 i)], [some ⟨26, [[.int .i64 0, .int .i64 0, .nils, .nils, .nils]]⟩, some ⟨26, [[.int .i64 slots, .int .i64 limit, .own 2 Sectors2.length, .own 3 Wear.length, .own 4 Bad.length]]⟩, some ⟨49, List.map O49 Sectors2⟩, some ⟨3, List.map R3 Wear⟩, some ⟨4, List.map R4 Bad⟩]⟩) hl1 (ES [some 0, some 1, none, some 2, some 3]) fun n1 Sectors2 i h=>?_
    unfold J3 at h
    refine Tr<|R2 ZU Y<|Za<|Zh<|If h Y (fun h=>?_) fun h=>?_
    ·
     refine Zi<|I1 (fun Sectors3=>⟨[(1, .int .i64 slots), (6, .ptr 0 1 0 0), (8, .ptr 1 1 0 0), (30, .int .i64 sectors), (31, .int .i64 i)], [some ⟨26, [[.int .i64 0, .int .i64 0, .nils, .nils, .nils]]⟩, some ⟨26, [[.int .i64 slots, .int .i64 limit, .own 2 Sectors3.length, .own 3 Wear.length, .own 4 Bad.length]]⟩, some ⟨49, List.map O49 Sectors3⟩, some ⟨3, List.map R3 Wear⟩, some ⟨4, List.map R4 Bad⟩]⟩) h (fun h=>?_) fun Sectors3 h=>?_
     ·
      refine Zg<|K5 1 6 8 30 31 Y<|Qf (cw := ⟨true, false, [], [], []⟩) (by kernel_rfl)<|Z3 3 _ Y (by kernel_rfl) Y Y (fun hp'=>Zc<|ov Y)<|bE h fun y4 h_y4 h=>Zkc [0, 2, 4] (by kernel_rfl)<|.q Y Y Y (Zf (ov Y) Y Y Zx) ?_<|.w Y Y Y (fun h=>by cases h) (fun h=>by cases h) (Jc<|Jh Qp (.cons (cvs (ov Y)<|Zk Y) Y (.cons (.b Y) .nil) .nil) Y Y) ?_<|.w Y Y Y (fun h=>by cases h) (fun h=>by cases h) (Jc<|Zp (Qd h_y4)<|.cons (ov Y) (.b Y) .nil) ?_ .nil
      ·
       refine Zkc [1, 2, 4] (by kernel_rfl)<|.q Y Y Y (Zs (ov Y) Y Y Y ZY Y) ?_<|.w Y Y Y (fun h=>by cases h) (fun h=>by cases h) (Jc<|Jh Qp (.cons (cvs (ov Y)<|Zk Y) Y (.cons (.b Y) .nil) .nil) Y Y) ?_<|.w Y Y Y (fun h=>by cases h) (fun h=>by cases h) (Jc<|Zp (Qd h_y4)<|.cons (ov Y) (.b Y) .nil) ?_ .nil
       ·
        refine Zkw 2 4 Y Y (by kernel_rfl) Y Y Y Y (fun h=>by cases h) (fun h=>by cases h) (fun h=>by cases h) (fun h=>by cases h) (Jc<|Jh Qp (.cons (cvs (ov Y)<|Zk Y) Y (.cons (.b Y) .nil) .nil) Y Y) (Jc<|Zp (Qd h_y4)<|.cons (ov Y) (.b Y) .nil) ?_ ?_
        ·
         exact Do 4 Y (Jc<|Zp (Qd h_y4)<|.cons (ov Y) (.b Y) .nil)<|bE h fun y5 h_y5 h=>Do 5 Y (ZG [] (Zl h_y5) (.cons (ov Y) (.dat Y)<|.cons (ov Y) (.dat Y) .nil) .nil Y (.keep Y Y<|.keep Y Y<|.keep Y Y<|.keep Y Y<|.keep Y Y<|.lent 0 (.inr ⟨Nat.le_of_ble_eq_true Y, Y⟩) Y (roM D5) .nil) Y Y<|.own _<|.inr ⟨Nat.le_of_ble_eq_true Y, Y⟩)<|Do 6 Y (Qk (r := 6) Y ZQ (.cons (cvs (ov Y)<|Zk Y) Y .nil) Y Y)<|bE h fun l3 h_l3 h=>Do 7 Y (ZA (f := O49) (ov Y) (ZW (o := ⟨49, [[.own 5 y5.length]]⟩) (ov Y) Y Y tZ_49) ZQ Y Y (Zb Y) Y h_l3)<|Dq 8 Y (Zf (ov Y) Y Y Zx)<|Do 9 Y (Zj (ov Y) (ov Y) (Ze ZY) Y Y Y (Nat.le_of_ble_eq_true Y) (Zb Y) Y)<|ZX (by kernel_rfl) (Ent.trans (Ent.absorbH (r := 2) (j := 0) (q := 5) Y (Zm h_l3) Y Y (List.length_map ..) Y)<|Ent.closeS (r := 2) Y (Zm h_l3) Y)<|⟨_, h, ES [some 0, some 1, some 2, some 3, some 4] (hhp := .cons Y (ro1 (by exact tZ_26.symm)<|rld Y)<|.cons Y (ro1 (by exact tZ_26.symm)<|rlc (.dat Y)<|rlc (.dat Y)<|rlc (.own _ Y)<|rlc (.own _ Y)<|rlc (.own _ Y) rln)<|.cons Y (roO QN)<|.cons Y (roM D3)<|.cons Y (roM D4) .nil)⟩
        ·
         exact JM 2 (.sl 5<|List.map R5 ([255] : List Int)) _ Y (by kernel_rfl) Y Y (fun h=>by cases h) (fun h=>by cases h) (Jc<|Jh Qp (.cons (cvs (ov Y)<|Zk Y) Y (.cons (.b Y) .nil) .nil) Y Y)<|bE h fun y5 h_y5 h=>Do 5 Y (ZG [] (Zl h_y5) (.cons (ov Y) (.dat Y)<|.cons (ov Y) (.dat Y) .nil) .nil Y (.keep Y Y<|.keep Y Y<|.keep Y Y<|.keep Y Y<|.keep Y Y<|.lent 0 (.inr ⟨Nat.le_of_ble_eq_true Y, Y⟩) Y (roM D5) .nil) Y Y<|.own _<|.inr ⟨Nat.le_of_ble_eq_true Y, Y⟩)<|Do 6 Y (Qk (r := 6) Y ZQ (.cons (cvs (ov Y)<|Zk Y) Y .nil) Y Y)<|bE h fun l3 h_l3 h=>Do 7 Y (ZA (f := O49) (ov Y) (ZW (o := ⟨49, [[.own 5 y5.length]]⟩) (ov Y) Y Y tZ_49) ZQ Y Y (Zb Y) Y h_l3)<|Dq 8 Y (Zf (ov Y) Y Y Zx)<|Do 9 Y (Zj (ov Y) (ov Y) (Ze ZY) Y Y Y (Nat.le_of_ble_eq_true Y) (Zb Y) Y)<|ZX (by kernel_rfl) (Ent.trans (Ent.absorbH (r := 2) (j := 0) (q := 5) Y (Zm h_l3) Y Y (List.length_map ..) Y)<|Ent.closeS (r := 2) Y (Zm h_l3) Y)<|⟨_, h, ES [some 0, some 1, some 2, some 3, some 4] (hhp := .cons Y (ro1 (by exact tZ_26.symm)<|rld Y)<|.cons Y (ro1 (by exact tZ_26.symm)<|rlc (.dat Y)<|rlc (.dat Y)<|rlc (.own _ Y)<|rlc (.own _ Y)<|rlc (.own _ Y) rln)<|.cons Y (roO QN)<|.cons Y (roM D3)<|.cons Y (roM D4) .nil)⟩
       ·
        refine Dw 1 4 Y (Zs (ov Y) Y Y Y ZY Y) (Jc<|Zp (Qd h_y4)<|.cons (ov Y) (.b Y) .nil) ?_ ?_
        ·
         exact Do 4 Y (Jc<|Zp (Qd h_y4)<|.cons (ov Y) (.b Y) .nil)<|bE h fun y5 h_y5 h=>Do 5 Y (ZG [] (Zl h_y5) (.cons (ov Y) (.dat Y)<|.cons (ov Y) (.dat Y) .nil) .nil Y (.keep Y Y<|.keep Y Y<|.keep Y Y<|.keep Y Y<|.keep Y Y<|.lent 0 (.inr ⟨Nat.le_of_ble_eq_true Y, Y⟩) Y (roM D5) .nil) Y Y<|.own _<|.inr ⟨Nat.le_of_ble_eq_true Y, Y⟩)<|Do 6 Y (Qk (r := 6) Y ZQ (.cons (cvs (ov Y)<|Zk Y) Y .nil) Y Y)<|bE h fun l3 h_l3 h=>Do 7 Y (ZA (f := O49) (ov Y) (ZW (o := ⟨49, [[.own 5 y5.length]]⟩) (ov Y) Y Y tZ_49) ZQ Y Y (Zb Y) Y h_l3)<|Dq 8 Y (Zf (ov Y) Y Y Zx)<|Do 9 Y (Zj (ov Y) (ov Y) (Ze ZY) Y Y Y (Nat.le_of_ble_eq_true Y) (Zb Y) Y)<|ZX (by kernel_rfl) (Ent.trans (Ent.absorbH (r := 2) (j := 0) (q := 5) Y (Zm h_l3) Y Y (List.length_map ..) Y)<|Ent.closeS (r := 2) Y (Zm h_l3) Y)<|⟨_, h, ES [some 0, some 1, some 2, some 3, some 4] (hhp := .cons Y (ro1 (by exact tZ_26.symm)<|rld Y)<|.cons Y (ro1 (by exact tZ_26.symm)<|rlc (.dat Y)<|rlc (.dat Y)<|rlc (.own _ Y)<|rlc (.own _ Y)<|rlc (.own _ Y) rln)<|.cons Y (roO QN)<|.cons Y (roM D3)<|.cons Y (roM D4) .nil)⟩
        ·
         refine bE h fun y5 h_y5 h=>Dw 1 5 Y (Zs (ov Y) Y Y Y ZY Y) (ZG [] (Zl h_y5) (.cons (ov Y) (.dat Y)<|.cons (ov Y) (.dat Y) .nil) .nil Y (.keep Y Y<|.keep Y Y<|.keep Y Y<|.keep Y Y<|.keep Y Y<|.lent 0 (.inr ⟨Nat.le_of_ble_eq_true Y, Y⟩) Y (roM D5) .nil) Y Y<|.own _<|.inr ⟨Nat.le_of_ble_eq_true Y, Y⟩) ?_ ?_
         ·
          exact Do 5 Y (ZG [] (Zl h_y5) (.cons (ov Y) (.dat Y)<|.cons (ov Y) (.dat Y) .nil) .nil Y (.keep Y Y<|.keep Y Y<|.keep Y Y<|.keep Y Y<|.keep Y Y<|.lent 0 (.inr ⟨Nat.le_of_ble_eq_true Y, Y⟩) Y (roM D5) .nil) Y Y<|.own _<|.inr ⟨Nat.le_of_ble_eq_true Y, Y⟩)<|Do 6 Y (Qk (r := 6) Y ZQ (.cons (cvs (ov Y)<|Zk Y) Y .nil) Y Y)<|bE h fun l3 h_l3 h=>Do 7 Y (ZA (f := O49) (ov Y) (ZW (o := ⟨49, [[.own 5 y5.length]]⟩) (ov Y) Y Y tZ_49) ZQ Y Y (Zb Y) Y h_l3)<|Dq 8 Y (Zf (ov Y) Y Y Zx)<|Do 9 Y (Zj (ov Y) (ov Y) (Ze ZY) Y Y Y (Nat.le_of_ble_eq_true Y) (Zb Y) Y)<|ZX (by kernel_rfl) (Ent.trans (Ent.absorbH (r := 2) (j := 0) (q := 5) Y (Zm h_l3) Y Y (List.length_map ..) Y)<|Ent.closeS (r := 2) Y (Zm h_l3) Y)<|⟨_, h, ES [some 0, some 1, some 2, some 3, some 4] (hhp := .cons Y (ro1 (by exact tZ_26.symm)<|rld Y)<|.cons Y (ro1 (by exact tZ_26.symm)<|rlc (.dat Y)<|rlc (.dat Y)<|rlc (.own _ Y)<|rlc (.own _ Y)<|rlc (.own _ Y) rln)<|.cons Y (roO QN)<|.cons Y (roM D3)<|.cons Y (roM D4) .nil)⟩
         ·
          refine Dw 1 6 Y (Zs (ov Y) Y Y Y ZY Y) (Qk (r := 6) Y ZQ (.cons (cvs (ov Y)<|Zk Y) Y .nil) Y Y) ?_ ?_
          ·
           exact Do 6 Y (Qk (r := 6) Y ZQ (.cons (cvs (ov Y)<|Zk Y) Y .nil) Y Y)<|bE h fun l3 h_l3 h=>Do 7 Y (ZA (f := O49) (ov Y) (ZW (o := ⟨49, [[.own 5 y5.length]]⟩) (ov Y) Y Y tZ_49) ZQ Y Y (Zb Y) Y h_l3)<|Dq 8 Y (Zf (ov Y) Y Y Zx)<|Do 9 Y (Zj (ov Y) (ov Y) (Ze ZY) Y Y Y (Nat.le_of_ble_eq_true Y) (Zb Y) Y)<|ZX (by kernel_rfl) (Ent.trans (Ent.absorbH (r := 2) (j := 0) (q := 5) Y (Zm h_l3) Y Y (List.length_map ..) Y)<|Ent.closeS (r := 2) Y (Zm h_l3) Y)<|⟨_, h, ES [some 0, some 1, some 2, some 3, some 4] (hhp := .cons Y (ro1 (by exact tZ_26.symm)<|rld Y)<|.cons Y (ro1 (by exact tZ_26.symm)<|rlc (.dat Y)<|rlc (.dat Y)<|rlc (.own _ Y)<|rlc (.own _ Y)<|rlc (.own _ Y) rln)<|.cons Y (roO QN)<|.cons Y (roM D3)<|.cons Y (roM D4) .nil)⟩
          ·
           exact Dq 1 Y (Zs (ov Y) Y Y Y ZY Y)<|bE h fun l3 h_l3 h=>Do 7 Y (ZA (f := O49) (ov Y) (ZW (o := ⟨49, [[.own 5 y5.length]]⟩) (ov Y) Y Y tZ_49) ZQ Y Y (Zb Y) Y h_l3)<|Dq 8 Y (Zf (ov Y) Y Y Zx)<|Do 9 Y (Zj (ov Y) (ov Y) (Ze ZY) Y Y Y (Nat.le_of_ble_eq_true Y) (Zb Y) Y)<|ZX (by kernel_rfl) (Ent.trans (Ent.absorbH (r := 2) (j := 0) (q := 5) Y (Zm h_l3) Y Y (List.length_map ..) Y)<|Ent.closeS (r := 2) Y (Zm h_l3) Y)<|⟨_, h, ES [some 0, some 1, some 2, some 3, some 4] (hhp := .cons Y (ro1 (by exact tZ_26.symm)<|rld Y)<|.cons Y (ro1 (by exact tZ_26.symm)<|rlc (.dat Y)<|rlc (.dat Y)<|rlc (.own _ Y)<|rlc (.own _ Y)<|rlc (.own _ Y) rln)<|.cons Y (roO QN)<|.cons Y (roM D3)<|.cons Y (roM D4) .nil)⟩
       ·
        refine Dw 1 2 Y (Zs (ov Y) Y Y Y ZY Y) (Jc<|Jh Qp (.cons (cvs (ov Y)<|Zk Y) Y (.cons (.b Y) .nil) .nil) Y Y) ?_ ?_
        ·
         exact JM 2 (.sl 5<|List.map R5 ([255] : List Int)) _ Y (by kernel_rfl) Y Y (fun h=>by cases h) (fun h=>by cases h) (Jc<|Jh Qp (.cons (cvs (ov Y)<|Zk Y) Y (.cons (.b Y) .nil) .nil) Y Y)<|bE h fun y5 h_y5 h=>Do 5 Y (ZG [] (Zl h_y5) (.cons (ov Y) (.dat Y)<|.cons (ov Y) (.dat Y) .nil) .nil Y (.keep Y Y<|.keep Y Y<|.keep Y Y<|.keep Y Y<|.keep Y Y<|.lent 0 (.inr ⟨Nat.le_of_ble_eq_true Y, Y⟩) Y (roM D5) .nil) Y Y<|.own _<|.inr ⟨Nat.le_of_ble_eq_true Y, Y⟩)<|Do 6 Y (Qk (r := 6) Y ZQ (.cons (cvs (ov Y)<|Zk Y) Y .nil) Y Y)<|bE h fun l3 h_l3 h=>Do 7 Y (ZA (f := O49) (ov Y) (ZW (o := ⟨49, [[.own 5 y5.length]]⟩) (ov Y) Y Y tZ_49) ZQ Y Y (Zb Y) Y h_l3)<|Dq 8 Y (Zf (ov Y) Y Y Zx)<|Do 9 Y (Zj (ov Y) (ov Y) (Ze ZY) Y Y Y (Nat.le_of_ble_eq_true Y) (Zb Y) Y)<|ZX (by kernel_rfl) (Ent.trans (Ent.absorbH (r := 2) (j := 0) (q := 5) Y (Zm h_l3) Y Y (List.length_map ..) Y)<|Ent.closeS (r := 2) Y (Zm h_l3) Y)<|⟨_, h, ES [some 0, some 1, some 2, some 3, some 4] (hhp := .cons Y (ro1 (by exact tZ_26.symm)<|rld Y)<|.cons Y (ro1 (by exact tZ_26.symm)<|rlc (.dat Y)<|rlc (.dat Y)<|rlc (.own _ Y)<|rlc (.own _ Y)<|rlc (.own _ Y) rln)<|.cons Y (roO QN)<|.cons Y (roM D3)<|.cons Y (roM D4) .nil)⟩
        ·
         refine bE h fun y5 h_y5 h=>Dw 1 5 Y (Zs (ov Y) Y Y Y ZY Y) (ZG [] (Zl h_y5) (.cons (ov Y) (.dat Y)<|.cons (ov Y) (.dat Y) .nil) .nil Y (.keep Y Y<|.keep Y Y<|.keep Y Y<|.keep Y Y<|.keep Y Y<|.lent 0 (.inr ⟨Nat.le_of_ble_eq_true Y, Y⟩) Y (roM D5) .nil) Y Y<|.own _<|.inr ⟨Nat.le_of_ble_eq_true Y, Y⟩) ?_ ?_
         ·
          exact Do 5 Y (ZG [] (Zl h_y5) (.cons (ov Y) (.dat Y)<|.cons (ov Y) (.dat Y) .nil) .nil Y (.keep Y Y<|.keep Y Y<|.keep Y Y<|.keep Y Y<|.keep Y Y<|.lent 0 (.inr ⟨Nat.le_of_ble_eq_true Y, Y⟩) Y (roM D5) .nil) Y Y<|.own _<|.inr ⟨Nat.le_of_ble_eq_true Y, Y⟩)<|Do 6 Y (Qk (r := 6) Y ZQ (.cons (cvs (ov Y)<|Zk Y) Y .nil) Y Y)<|bE h fun l3 h_l3 h=>Do 7 Y (ZA (f := O49) (ov Y) (ZW (o := ⟨49, [[.own 5 y5.length]]⟩) (ov Y) Y Y tZ_49) ZQ Y Y (Zb Y) Y h_l3)<|Dq 8 Y (Zf (ov Y) Y Y Zx)<|Do 9 Y (Zj (ov Y) (ov Y) (Ze ZY) Y Y Y (Nat.le_of_ble_eq_true Y) (Zb Y) Y)<|ZX (by kernel_rfl) (Ent.trans (Ent.absorbH (r := 2) (j := 0) (q := 5) Y (Zm h_l3) Y Y (List.length_map ..) Y)<|Ent.closeS (r := 2) Y (Zm h_l3) Y)<|⟨_, h, ES [some 0, some 1, some 2, some 3, some 4] (hhp := .cons Y (ro1 (by exact tZ_26.symm)<|rld Y)<|.cons Y (ro1 (by exact tZ_26.symm)<|rlc (.dat Y)<|rlc (.dat Y)<|rlc (.own _ Y)<|rlc (.own _ Y)<|rlc (.own _ Y) rln)<|.cons Y (roO QN)<|.cons Y (roM D3)<|.cons Y (roM D4) .nil)⟩
         ·
          refine Dw 1 6 Y (Zs (ov Y) Y Y Y ZY Y) (Qk (r := 6) Y ZQ (.cons (cvs (ov Y)<|Zk Y) Y .nil) Y Y) ?_ ?_
          ·
           exact Do 6 Y (Qk (r := 6) Y ZQ (.cons (cvs (ov Y)<|Zk Y) Y .nil) Y Y)<|bE h fun l3 h_l3 h=>Do 7 Y (ZA (f := O49) (ov Y) (ZW (o := ⟨49, [[.own 5 y5.length]]⟩) (ov Y) Y Y tZ_49) ZQ Y Y (Zb Y) Y h_l3)<|Dq 8 Y (Zf (ov Y) Y Y Zx)<|Do 9 Y (Zj (ov Y) (ov Y) (Ze ZY) Y Y Y (Nat.le_of_ble_eq_true Y) (Zb Y) Y)<|ZX (by kernel_rfl) (Ent.trans (Ent.absorbH (r := 2) (j := 0) (q := 5) Y (Zm h_l3) Y Y (List.length_map ..) Y)<|Ent.closeS (r := 2) Y (Zm h_l3) Y)<|⟨_, h, ES [some 0, some 1, some 2, some 3, some 4] (hhp := .cons Y (ro1 (by exact tZ_26.symm)<|rld Y)<|.cons Y (ro1 (by exact tZ_26.symm)<|rlc (.dat Y)<|rlc (.dat Y)<|rlc (.own _ Y)<|rlc (.own _ Y)<|rlc (.own _ Y) rln)<|.cons Y (roO QN)<|.cons Y (roM D3)<|.cons Y (roM D4) .nil)⟩
          ·
           exact Dq 1 Y (Zs (ov Y) Y Y Y ZY Y)<|bE h fun l3 h_l3 h=>Do 7 Y (ZA (f := O49) (ov Y) (ZW (o := ⟨49, [[.own 5 y5.length]]⟩) (ov Y) Y Y tZ_49) ZQ Y Y (Zb Y) Y h_l3)<|Dq 8 Y (Zf (ov Y) Y Y Zx)<|Do 9 Y (Zj (ov Y) (ov Y) (Ze ZY) Y Y Y (Nat.le_of_ble_eq_true Y) (Zb Y) Y)<|ZX (by kernel_rfl) (Ent.trans (Ent.absorbH (r := 2) (j := 0) (q := 5) Y (Zm h_l3) Y Y (List.length_map ..) Y)<|Ent.closeS (r := 2) Y (Zm h_l3) Y)<|⟨_, h, ES [some 0, some 1, some 2, some 3, some 4] (hhp := .cons Y (ro1 (by exact tZ_26.symm)<|rld Y)<|.cons Y (ro1 (by exact tZ_26.symm)<|rlc (.dat Y)<|rlc (.dat Y)<|rlc (.own _ Y)<|rlc (.own _ Y)<|rlc (.own _ Y) rln)<|.cons Y (roO QN)<|.cons Y (roM D3)<|.cons Y (roM D4) .nil)⟩
      ·
       refine Dw 0 4 Y (Zf (ov Y) Y Y Zx) (Jc<|Zp (Qd h_y4)<|.cons (ov Y) (.b Y) .nil) ?_ ?_
       ·
        refine Dw 1 4 Y (Zs (ov Y) Y Y Y ZY Y) (Jc<|Zp (Qd h_y4)<|.cons (ov Y) (.b Y) .nil) ?_ ?_
        ·
         exact Do 4 Y (Jc<|Zp (Qd h_y4)<|.cons (ov Y) (.b Y) .nil)<|bE h fun y5 h_y5 h=>Do 5 Y (ZG [] (Zl h_y5) (.cons (ov Y) (.dat Y)<|.cons (ov Y) (.dat Y) .nil) .nil Y (.keep Y Y<|.keep Y Y<|.keep Y Y<|.keep Y Y<|.keep Y Y<|.lent 0 (.inr ⟨Nat.le_of_ble_eq_true Y, Y⟩) Y (roM D5) .nil) Y Y<|.own _<|.inr ⟨Nat.le_of_ble_eq_true Y, Y⟩)<|Do 6 Y (Qk (r := 6) Y ZQ (.cons (cvs (ov Y)<|Zk Y) Y .nil) Y Y)<|bE h fun l3 h_l3 h=>Do 7 Y (ZA (f := O49) (ov Y) (ZW (o := ⟨49, [[.own 5 y5.length]]⟩) (ov Y) Y Y tZ_49) ZQ Y Y (Zb Y) Y h_l3)<|Dq 8 Y (Zf (ov Y) Y Y Zx)<|Do 9 Y (Zj (ov Y) (ov Y) (Ze ZY) Y Y Y (Nat.le_of_ble_eq_true Y) (Zb Y) Y)<|ZX (by kernel_rfl) (Ent.trans (Ent.absorbH (r := 2) (j := 0) (q := 5) Y (Zm h_l3) Y Y (List.length_map ..) Y)<|Ent.closeS (r := 2) Y (Zm h_l3) Y)<|⟨_, h, ES [some 0, some 1, some 2, some 3, some 4] (hhp := .cons Y (ro1 (by exact tZ_26.symm)<|rld Y)<|.cons Y (ro1 (by exact tZ_26.symm)<|rlc (.dat Y)<|rlc (.dat Y)<|rlc (.own _ Y)<|rlc (.own _ Y)<|rlc (.own _ Y) rln)<|.cons Y (roO QN)<|.cons Y (roM D3)<|.cons Y (roM D4) .nil)⟩
        ·
         refine bE h fun y5 h_y5 h=>Dw 1 5 Y (Zs (ov Y) Y Y Y ZY Y) (ZG [] (Zl h_y5) (.cons (ov Y) (.dat Y)<|.cons (ov Y) (.dat Y) .nil) .nil Y (.keep Y Y<|.keep Y Y<|.keep Y Y<|.keep Y Y<|.keep Y Y<|.lent 0 (.inr ⟨Nat.le_of_ble_eq_true Y, Y⟩) Y (roM D5) .nil) Y Y<|.own _<|.inr ⟨Nat.le_of_ble_eq_true Y, Y⟩) ?_ ?_
         ·
          exact Do 5 Y (ZG [] (Zl h_y5) (.cons (ov Y) (.dat Y)<|.cons (ov Y) (.dat Y) .nil) .nil Y (.keep Y Y<|.keep Y Y<|.keep Y Y<|.keep Y Y<|.keep Y Y<|.lent 0 (.inr ⟨Nat.le_of_ble_eq_true Y, Y⟩) Y (roM D5) .nil) Y Y<|.own _<|.inr ⟨Nat.le_of_ble_eq_true Y, Y⟩)<|Do 6 Y (Qk (r := 6) Y ZQ (.cons (cvs (ov Y)<|Zk Y) Y .nil) Y Y)<|bE h fun l3 h_l3 h=>Do 7 Y (ZA (f := O49) (ov Y) (ZW (o := ⟨49, [[.own 5 y5.length]]⟩) (ov Y) Y Y tZ_49) ZQ Y Y (Zb Y) Y h_l3)<|Dq 8 Y (Zf (ov Y) Y Y Zx)<|Do 9 Y (Zj (ov Y) (ov Y) (Ze ZY) Y Y Y (Nat.le_of_ble_eq_true Y) (Zb Y) Y)<|ZX (by kernel_rfl) (Ent.trans (Ent.absorbH (r := 2) (j := 0) (q := 5) Y (Zm h_l3) Y Y (List.length_map ..) Y)<|Ent.closeS (r := 2) Y (Zm h_l3) Y)<|⟨_, h, ES [some 0, some 1, some 2, some 3, some 4] (hhp := .cons Y (ro1 (by exact tZ_26.symm)<|rld Y)<|.cons Y (ro1 (by exact tZ_26.symm)<|rlc (.dat Y)<|rlc (.dat Y)<|rlc (.own _ Y)<|rlc (.own _ Y)<|rlc (.own _ Y) rln)<|.cons Y (roO QN)<|.cons Y (roM D3)<|.cons Y (roM D4) .nil)⟩
         ·
          refine Dw 1 6 Y (Zs (ov Y) Y Y Y ZY Y) (Qk (r := 6) Y ZQ (.cons (cvs (ov Y)<|Zk Y) Y .nil) Y Y) ?_ ?_
          ·
           exact Do 6 Y (Qk (r := 6) Y ZQ (.cons (cvs (ov Y)<|Zk Y) Y .nil) Y Y)<|bE h fun l3 h_l3 h=>Do 7 Y (ZA (f := O49) (ov Y) (ZW (o := ⟨49, [[.own 5 y5.length]]⟩) (ov Y) Y Y tZ_49) ZQ Y Y (Zb Y) Y h_l3)<|Dq 8 Y (Zf (ov Y) Y Y Zx)<|Do 9 Y (Zj (ov Y) (ov Y) (Ze ZY) Y Y Y (Nat.le_of_ble_eq_true Y) (Zb Y) Y)<|ZX (by kernel_rfl) (Ent.trans (Ent.absorbH (r := 2) (j := 0) (q := 5) Y (Zm h_l3) Y Y (List.length_map ..) Y)<|Ent.closeS (r := 2) Y (Zm h_l3) Y)<|⟨_, h, ES [some 0, some 1, some 2, some 3, some 4] (hhp := .cons Y (ro1 (by exact tZ_26.symm)<|rld Y)<|.cons Y (ro1 (by exact tZ_26.symm)<|rlc (.dat Y)<|rlc (.dat Y)<|rlc (.own _ Y)<|rlc (.own _ Y)<|rlc (.own _ Y) rln)<|.cons Y (roO QN)<|.cons Y (roM D3)<|.cons Y (roM D4) .nil)⟩
          ·
           exact Dq 1 Y (Zs (ov Y) Y Y Y ZY Y)<|bE h fun l3 h_l3 h=>Do 7 Y (ZA (f := O49) (ov Y) (ZW (o := ⟨49, [[.own 5 y5.length]]⟩) (ov Y) Y Y tZ_49) ZQ Y Y (Zb Y) Y h_l3)<|Dq 8 Y (Zf (ov Y) Y Y Zx)<|Do 9 Y (Zj (ov Y) (ov Y) (Ze ZY) Y Y Y (Nat.le_of_ble_eq_true Y) (Zb Y) Y)<|ZX (by kernel_rfl) (Ent.trans (Ent.absorbH (r := 2) (j := 0) (q := 5) Y (Zm h_l3) Y Y (List.length_map ..) Y)<|Ent.closeS (r := 2) Y (Zm h_l3) Y)<|⟨_, h, ES [some 0, some 1, some 2, some 3, some 4] (hhp := .cons Y (ro1 (by exact tZ_26.symm)<|rld Y)<|.cons Y (ro1 (by exact tZ_26.symm)<|rlc (.dat Y)<|rlc (.dat Y)<|rlc (.own _ Y)<|rlc (.own _ Y)<|rlc (.own _ Y) rln)<|.cons Y (roO QN)<|.cons Y (roM D3)<|.cons Y (roM D4) .nil)⟩
       ·
        refine bE h fun y5 h_y5 h=>Dw 0 5 Y (Zf (ov Y) Y Y Zx) (ZG [] (Zl h_y5) (.cons (ov Y) (.dat Y)<|.cons (ov Y) (.dat Y) .nil) .nil Y (.keep Y Y<|.keep Y Y<|.keep Y Y<|.keep Y Y<|.keep Y Y<|.lent 0 (.inr ⟨Nat.le_of_ble_eq_true Y, Y⟩) Y (roM D5) .nil) Y Y<|.own _<|.inr ⟨Nat.le_of_ble_eq_true Y, Y⟩) ?_ ?_
        ·
         refine Dw 1 5 Y (Zs (ov Y) Y Y Y ZY Y) (ZG [] (Zl h_y5) (.cons (ov Y) (.dat Y)<|.cons (ov Y) (.dat Y) .nil) .nil Y (.keep Y Y<|.keep Y Y<|.keep Y Y<|.keep Y Y<|.keep Y Y<|.lent 0 (.inr ⟨Nat.le_of_ble_eq_true Y, Y⟩) Y (roM D5) .nil) Y Y<|.own _<|.inr ⟨Nat.le_of_ble_eq_true Y, Y⟩) ?_ ?_
         ·
          exact Do 5 Y (ZG [] (Zl h_y5) (.cons (ov Y) (.dat Y)<|.cons (ov Y) (.dat Y) .nil) .nil Y (.keep Y Y<|.keep Y Y<|.keep Y Y<|.keep Y Y<|.keep Y Y<|.lent 0 (.inr ⟨Nat.le_of_ble_eq_true Y, Y⟩) Y (roM D5) .nil) Y Y<|.own _<|.inr ⟨Nat.le_of_ble_eq_true Y, Y⟩)<|Do 6 Y (Qk (r := 6) Y ZQ (.cons (cvs (ov Y)<|Zk Y) Y .nil) Y Y)<|bE h fun l3 h_l3 h=>Do 7 Y (ZA (f := O49) (ov Y) (ZW (o := ⟨49, [[.own 5 y5.length]]⟩) (ov Y) Y Y tZ_49) ZQ Y Y (Zb Y) Y h_l3)<|Dq 8 Y (Zf (ov Y) Y Y Zx)<|Do 9 Y (Zj (ov Y) (ov Y) (Ze ZY) Y Y Y (Nat.le_of_ble_eq_true Y) (Zb Y) Y)<|ZX (by kernel_rfl) (Ent.trans (Ent.absorbH (r := 2) (j := 0) (q := 5) Y (Zm h_l3) Y Y (List.length_map ..) Y)<|Ent.closeS (r := 2) Y (Zm h_l3) Y)<|⟨_, h, ES [some 0, some 1, some 2, some 3, some 4] (hhp := .cons Y (ro1 (by exact tZ_26.symm)<|rld Y)<|.cons Y (ro1 (by exact tZ_26.symm)<|rlc (.dat Y)<|rlc (.dat Y)<|rlc (.own _ Y)<|rlc (.own _ Y)<|rlc (.own _ Y) rln)<|.cons Y (roO QN)<|.cons Y (roM D3)<|.cons Y (roM D4) .nil)⟩
         ·
          refine Dw 1 6 Y (Zs (ov Y) Y Y Y ZY Y) (Qk (r := 6) Y ZQ (.cons (cvs (ov Y)<|Zk Y) Y .nil) Y Y) ?_ ?_
          ·
           exact Do 6 Y (Qk (r := 6) Y ZQ (.cons (cvs (ov Y)<|Zk Y) Y .nil) Y Y)<|bE h fun l3 h_l3 h=>Do 7 Y (ZA (f := O49) (ov Y) (ZW (o := ⟨49, [[.own 5 y5.length]]⟩) (ov Y) Y Y tZ_49) ZQ Y Y (Zb Y) Y h_l3)<|Dq 8 Y (Zf (ov Y) Y Y Zx)<|Do 9 Y (Zj (ov Y) (ov Y) (Ze ZY) Y Y Y (Nat.le_of_ble_eq_true Y) (Zb Y) Y)<|ZX (by kernel_rfl) (Ent.trans (Ent.absorbH (r := 2) (j := 0) (q := 5) Y (Zm h_l3) Y Y (List.length_map ..) Y)<|Ent.closeS (r := 2) Y (Zm h_l3) Y)<|⟨_, h, ES [some 0, some 1, some 2, some 3, some 4] (hhp := .cons Y (ro1 (by exact tZ_26.symm)<|rld Y)<|.cons Y (ro1 (by exact tZ_26.symm)<|rlc (.dat Y)<|rlc (.dat Y)<|rlc (.own _ Y)<|rlc (.own _ Y)<|rlc (.own _ Y) rln)<|.cons Y (roO QN)<|.cons Y (roM D3)<|.cons Y (roM D4) .nil)⟩
          ·
           exact Dq 1 Y (Zs (ov Y) Y Y Y ZY Y)<|bE h fun l3 h_l3 h=>Do 7 Y (ZA (f := O49) (ov Y) (ZW (o := ⟨49, [[.own 5 y5.length]]⟩) (ov Y) Y Y tZ_49) ZQ Y Y (Zb Y) Y h_l3)<|Dq 8 Y (Zf (ov Y) Y Y Zx)<|Do 9 Y (Zj (ov Y) (ov Y) (Ze ZY) Y Y Y (Nat.le_of_ble_eq_true Y) (Zb Y) Y)<|ZX (by kernel_rfl) (Ent.trans (Ent.absorbH (r := 2) (j := 0) (q := 5) Y (Zm h_l3) Y Y (List.length_map ..) Y)<|Ent.closeS (r := 2) Y (Zm h_l3) Y)<|⟨_, h, ES [some 0, some 1, some 2, some 3, some 4] (hhp := .cons Y (ro1 (by exact tZ_26.symm)<|rld Y)<|.cons Y (ro1 (by exact tZ_26.symm)<|rlc (.dat Y)<|rlc (.dat Y)<|rlc (.own _ Y)<|rlc (.own _ Y)<|rlc (.own _ Y) rln)<|.cons Y (roO QN)<|.cons Y (roM D3)<|.cons Y (roM D4) .nil)⟩
        ·
         refine Dw 0 6 Y (Zf (ov Y) Y Y Zx) (Qk (r := 6) Y ZQ (.cons (cvs (ov Y)<|Zk Y) Y .nil) Y Y) ?_ ?_
         ·
          refine Dw 1 6 Y (Zs (ov Y) Y Y Y ZY Y) (Qk (r := 6) Y ZQ (.cons (cvs (ov Y)<|Zk Y) Y .nil) Y Y) ?_ ?_
          ·
           exact Do 6 Y (Qk (r := 6) Y ZQ (.cons (cvs (ov Y)<|Zk Y) Y .nil) Y Y)<|bE h fun l3 h_l3 h=>Do 7 Y (ZA (f := O49) (ov Y) (ZW (o := ⟨49, [[.own 5 y5.length]]⟩) (ov Y) Y Y tZ_49) ZQ Y Y (Zb Y) Y h_l3)<|Dq 8 Y (Zf (ov Y) Y Y Zx)<|Do 9 Y (Zj (ov Y) (ov Y) (Ze ZY) Y Y Y (Nat.le_of_ble_eq_true Y) (Zb Y) Y)<|ZX (by kernel_rfl) (Ent.trans (Ent.absorbH (r := 2) (j := 0) (q := 5) Y (Zm h_l3) Y Y (List.length_map ..) Y)<|Ent.closeS (r := 2) Y (Zm h_l3) Y)<|⟨_, h, ES [some 0, some 1, some 2, some 3, some 4] (hhp := .cons Y (ro1 (by exact tZ_26.symm)<|rld Y)<|.cons Y (ro1 (by exact tZ_26.symm)<|rlc (.dat Y)<|rlc (.dat Y)<|rlc (.own _ Y)<|rlc (.own _ Y)<|rlc (.own _ Y) rln)<|.cons Y (roO QN)<|.cons Y (roM D3)<|.cons Y (roM D4) .nil)⟩
          ·
           exact Dq 1 Y (Zs (ov Y) Y Y Y ZY Y)<|bE h fun l3 h_l3 h=>Do 7 Y (ZA (f := O49) (ov Y) (ZW (o := ⟨49, [[.own 5 y5.length]]⟩) (ov Y) Y Y tZ_49) ZQ Y Y (Zb Y) Y h_l3)<|Dq 8 Y (Zf (ov Y) Y Y Zx)<|Do 9 Y (Zj (ov Y) (ov Y) (Ze ZY) Y Y Y (Nat.le_of_ble_eq_true Y) (Zb Y) Y)<|ZX (by kernel_rfl) (Ent.trans (Ent.absorbH (r := 2) (j := 0) (q := 5) Y (Zm h_l3) Y Y (List.length_map ..) Y)<|Ent.closeS (r := 2) Y (Zm h_l3) Y)<|⟨_, h, ES [some 0, some 1, some 2, some 3, some 4] (hhp := .cons Y (ro1 (by exact tZ_26.symm)<|rld Y)<|.cons Y (ro1 (by exact tZ_26.symm)<|rlc (.dat Y)<|rlc (.dat Y)<|rlc (.own _ Y)<|rlc (.own _ Y)<|rlc (.own _ Y) rln)<|.cons Y (roO QN)<|.cons Y (roM D3)<|.cons Y (roM D4) .nil)⟩
         ·
          exact Dq 0 Y (Zf (ov Y) Y Y Zx)<|Dq 1 Y (Zs (ov Y) Y Y Y ZY Y)<|bE h fun l3 h_l3 h=>Do 7 Y (ZA (f := O49) (ov Y) (ZW (o := ⟨49, [[.own 5 y5.length]]⟩) (ov Y) Y Y tZ_49) ZQ Y Y (Zb Y) Y h_l3)<|Dq 8 Y (Zf (ov Y) Y Y Zx)<|Do 9 Y (Zj (ov Y) (ov Y) (Ze ZY) Y Y Y (Nat.le_of_ble_eq_true Y) (Zb Y) Y)<|ZX (by kernel_rfl) (Ent.trans (Ent.absorbH (r := 2) (j := 0) (q := 5) Y (Zm h_l3) Y Y (List.length_map ..) Y)<|Ent.closeS (r := 2) Y (Zm h_l3) Y)<|⟨_, h, ES [some 0, some 1, some 2, some 3, some 4] (hhp := .cons Y (ro1 (by exact tZ_26.symm)<|rld Y)<|.cons Y (ro1 (by exact tZ_26.symm)<|rlc (.dat Y)<|rlc (.dat Y)<|rlc (.own _ Y)<|rlc (.own _ Y)<|rlc (.own _ Y) rln)<|.cons Y (roO QN)<|.cons Y (roM D3)<|.cons Y (roM D4) .nil)⟩
      ·
       refine Dw 0 2 Y (Zf (ov Y) Y Y Zx) (Jc<|Jh Qp (.cons (cvs (ov Y)<|Zk Y) Y (.cons (.b Y) .nil) .nil) Y Y) ?_ ?_
       ·
        refine Dw 1 2 Y (Zs (ov Y) Y Y Y ZY Y) (Jc<|Jh Qp (.cons (cvs (ov Y)<|Zk Y) Y (.cons (.b Y) .nil) .nil) Y Y) ?_ ?_
        ·
         exact JM 2 (.sl 5<|List.map R5 ([255] : List Int)) _ Y (by kernel_rfl) Y Y (fun h=>by cases h) (fun h=>by cases h) (Jc<|Jh Qp (.cons (cvs (ov Y)<|Zk Y) Y (.cons (.b Y) .nil) .nil) Y Y)<|bE h fun y5 h_y5 h=>Do 5 Y (ZG [] (Zl h_y5) (.cons (ov Y) (.dat Y)<|.cons (ov Y) (.dat Y) .nil) .nil Y (.keep Y Y<|.keep Y Y<|.keep Y Y<|.keep Y Y<|.keep Y Y<|.lent 0 (.inr ⟨Nat.le_of_ble_eq_true Y, Y⟩) Y (roM D5) .nil) Y Y<|.own _<|.inr ⟨Nat.le_of_ble_eq_true Y, Y⟩)<|Do 6 Y (Qk (r := 6) Y ZQ (.cons (cvs (ov Y)<|Zk Y) Y .nil) Y Y)<|bE h fun l3 h_l3 h=>Do 7 Y (ZA (f := O49) (ov Y) (ZW (o := ⟨49, [[.own 5 y5.length]]⟩) (ov Y) Y Y tZ_49) ZQ Y Y (Zb Y) Y h_l3)<|Dq 8 Y (Zf (ov Y) Y Y Zx)<|Do 9 Y (Zj (ov Y) (ov Y) (Ze ZY) Y Y Y (Nat.le_of_ble_eq_true Y) (Zb Y) Y)<|ZX (by kernel_rfl) (Ent.trans (Ent.absorbH (r := 2) (j := 0) (q := 5) Y (Zm h_l3) Y Y (List.length_map ..) Y)<|Ent.closeS (r := 2) Y (Zm h_l3) Y)<|⟨_, h, ES [some 0, some 1, some 2, some 3, some 4] (hhp := .cons Y (ro1 (by exact tZ_26.symm)<|rld Y)<|.cons Y (ro1 (by exact tZ_26.symm)<|rlc (.dat Y)<|rlc (.dat Y)<|rlc (.own _ Y)<|rlc (.own _ Y)<|rlc (.own _ Y) rln)<|.cons Y (roO QN)<|.cons Y (roM D3)<|.cons Y (roM D4) .nil)⟩
        ·
         refine bE h fun y5 h_y5 h=>Dw 1 5 Y (Zs (ov Y) Y Y Y ZY Y) (ZG [] (Zl h_y5) (.cons (ov Y) (.dat Y)<|.cons (ov Y) (.dat Y) .nil) .nil Y (.keep Y Y<|.keep Y Y<|.keep Y Y<|.keep Y Y<|.keep Y Y<|.lent 0 (.inr ⟨Nat.le_of_ble_eq_true Y, Y⟩) Y (roM D5) .nil) Y Y<|.own _<|.inr ⟨Nat.le_of_ble_eq_true Y, Y⟩) ?_ ?_
         ·
          exact Do 5 Y (ZG [] (Zl h_y5) (.cons (ov Y) (.dat Y)<|.cons (ov Y) (.dat Y) .nil) .nil Y (.keep Y Y<|.keep Y Y<|.keep Y Y<|.keep Y Y<|.keep Y Y<|.lent 0 (.inr ⟨Nat.le_of_ble_eq_true Y, Y⟩) Y (roM D5) .nil) Y Y<|.own _<|.inr ⟨Nat.le_of_ble_eq_true Y, Y⟩)<|Do 6 Y (Qk (r := 6) Y ZQ (.cons (cvs (ov Y)<|Zk Y) Y .nil) Y Y)<|bE h fun l3 h_l3 h=>Do 7 Y (ZA (f := O49) (ov Y) (ZW (o := ⟨49, [[.own 5 y5.length]]⟩) (ov Y) Y Y tZ_49) ZQ Y Y (Zb Y) Y h_l3)<|Dq 8 Y (Zf (ov Y) Y Y Zx)<|Do 9 Y (Zj (ov Y) (ov Y) (Ze ZY) Y Y Y (Nat.le_of_ble_eq_true Y) (Zb Y) Y)<|ZX (by kernel_rfl) (Ent.trans (Ent.absorbH (r := 2) (j := 0) (q := 5) Y (Zm h_l3) Y Y (List.length_map ..) Y)<|Ent.closeS (r := 2) Y (Zm h_l3) Y)<|⟨_, h, ES [some 0, some 1, some 2, some 3, some 4] (hhp := .cons Y (ro1 (by exact tZ_26.symm)<|rld Y)<|.cons Y (ro1 (by exact tZ_26.symm)<|rlc (.dat Y)<|rlc (.dat Y)<|rlc (.own _ Y)<|rlc (.own _ Y)<|rlc (.own _ Y) rln)<|.cons Y (roO QN)<|.cons Y (roM D3)<|.cons Y (roM D4) .nil)⟩
         ·
          refine Dw 1 6 Y (Zs (ov Y) Y Y Y ZY Y) (Qk (r := 6) Y ZQ (.cons (cvs (ov Y)<|Zk Y) Y .nil) Y Y) ?_ ?_
          ·
           exact Do 6 Y (Qk (r := 6) Y ZQ (.cons (cvs (ov Y)<|Zk Y) Y .nil) Y Y)<|bE h fun l3 h_l3 h=>Do 7 Y (ZA (f := O49) (ov Y) (ZW (o := ⟨49, [[.own 5 y5.length]]⟩) (ov Y) Y Y tZ_49) ZQ Y Y (Zb Y) Y h_l3)<|Dq 8 Y (Zf (ov Y) Y Y Zx)<|Do 9 Y (Zj (ov Y) (ov Y) (Ze ZY) Y Y Y (Nat.le_of_ble_eq_true Y) (Zb Y) Y)<|ZX (by kernel_rfl) (Ent.trans (Ent.absorbH (r := 2) (j := 0) (q := 5) Y (Zm h_l3) Y Y (List.length_map ..) Y)<|Ent.closeS (r := 2) Y (Zm h_l3) Y)<|⟨_, h, ES [some 0, some 1, some 2, some 3, some 4] (hhp := .cons Y (ro1 (by exact tZ_26.symm)<|rld Y)<|.cons Y (ro1 (by exact tZ_26.symm)<|rlc (.dat Y)<|rlc (.dat Y)<|rlc (.own _ Y)<|rlc (.own _ Y)<|rlc (.own _ Y) rln)<|.cons Y (roO QN)<|.cons Y (roM D3)<|.cons Y (roM D4) .nil)⟩
          ·
           exact Dq 1 Y (Zs (ov Y) Y Y Y ZY Y)<|bE h fun l3 h_l3 h=>Do 7 Y (ZA (f := O49) (ov Y) (ZW (o := ⟨49, [[.own 5 y5.length]]⟩) (ov Y) Y Y tZ_49) ZQ Y Y (Zb Y) Y h_l3)<|Dq 8 Y (Zf (ov Y) Y Y Zx)<|Do 9 Y (Zj (ov Y) (ov Y) (Ze ZY) Y Y Y (Nat.le_of_ble_eq_true Y) (Zb Y) Y)<|ZX (by kernel_rfl) (Ent.trans (Ent.absorbH (r := 2) (j := 0) (q := 5) Y (Zm h_l3) Y Y (List.length_map ..) Y)<|Ent.closeS (r := 2) Y (Zm h_l3) Y)<|⟨_, h, ES [some 0, some 1, some 2, some 3, some 4] (hhp := .cons Y (ro1 (by exact tZ_26.symm)<|rld Y)<|.cons Y (ro1 (by exact tZ_26.symm)<|rlc (.dat Y)<|rlc (.dat Y)<|rlc (.own _ Y)<|rlc (.own _ Y)<|rlc (.own _ Y) rln)<|.cons Y (roO QN)<|.cons Y (roM D3)<|.cons Y (roM D4) .nil)⟩
       ·
        refine bE h fun y5 h_y5 h=>Dw 0 5 Y (Zf (ov Y) Y Y Zx) (ZG [] (Zl h_y5) (.cons (ov Y) (.dat Y)<|.cons (ov Y) (.dat Y) .nil) .nil Y (.keep Y Y<|.keep Y Y<|.keep Y Y<|.keep Y Y<|.keep Y Y<|.lent 0 (.inr ⟨Nat.le_of_ble_eq_true Y, Y⟩) Y (roM D5) .nil) Y Y<|.own _<|.inr ⟨Nat.le_of_ble_eq_true Y, Y⟩) ?_ ?_
        ·
         refine Dw 1 5 Y (Zs (ov Y) Y Y Y ZY Y) (ZG [] (Zl h_y5) (.cons (ov Y) (.dat Y)<|.cons (ov Y) (.dat Y) .nil) .nil Y (.keep Y Y<|.keep Y Y<|.keep Y Y<|.keep Y Y<|.keep Y Y<|.lent 0 (.inr ⟨Nat.le_of_ble_eq_true Y, Y⟩) Y (roM D5) .nil) Y Y<|.own _<|.inr ⟨Nat.le_of_ble_eq_true Y, Y⟩) ?_ ?_
         ·
          exact Do 5 Y (ZG [] (Zl h_y5) (.cons (ov Y) (.dat Y)<|.cons (ov Y) (.dat Y) .nil) .nil Y (.keep Y Y<|.keep Y Y<|.keep Y Y<|.keep Y Y<|.keep Y Y<|.lent 0 (.inr ⟨Nat.le_of_ble_eq_true Y, Y⟩) Y (roM D5) .nil) Y Y<|.own _<|.inr ⟨Nat.le_of_ble_eq_true Y, Y⟩)<|Do 6 Y (Qk (r := 6) Y ZQ (.cons (cvs (ov Y)<|Zk Y) Y .nil) Y Y)<|bE h fun l3 h_l3 h=>Do 7 Y (ZA (f := O49) (ov Y) (ZW (o := ⟨49, [[.own 5 y5.length]]⟩) (ov Y) Y Y tZ_49) ZQ Y Y (Zb Y) Y h_l3)<|Dq 8 Y (Zf (ov Y) Y Y Zx)<|Do 9 Y (Zj (ov Y) (ov Y) (Ze ZY) Y Y Y (Nat.le_of_ble_eq_true Y) (Zb Y) Y)<|ZX (by kernel_rfl) (Ent.trans (Ent.absorbH (r := 2) (j := 0) (q := 5) Y (Zm h_l3) Y Y (List.length_map ..) Y)<|Ent.closeS (r := 2) Y (Zm h_l3) Y)<|⟨_, h, ES [some 0, some 1, some 2, some 3, some 4] (hhp := .cons Y (ro1 (by exact tZ_26.symm)<|rld Y)<|.cons Y (ro1 (by exact tZ_26.symm)<|rlc (.dat Y)<|rlc (.dat Y)<|rlc (.own _ Y)<|rlc (.own _ Y)<|rlc (.own _ Y) rln)<|.cons Y (roO QN)<|.cons Y (roM D3)<|.cons Y (roM D4) .nil)⟩
         ·
          refine Dw 1 6 Y (Zs (ov Y) Y Y Y ZY Y) (Qk (r := 6) Y ZQ (.cons (cvs (ov Y)<|Zk Y) Y .nil) Y Y) ?_ ?_
          ·
           exact Do 6 Y (Qk (r := 6) Y ZQ (.cons (cvs (ov Y)<|Zk Y) Y .nil) Y Y)<|bE h fun l3 h_l3 h=>Do 7 Y (ZA (f := O49) (ov Y) (ZW (o := ⟨49, [[.own 5 y5.length]]⟩) (ov Y) Y Y tZ_49) ZQ Y Y (Zb Y) Y h_l3)<|Dq 8 Y (Zf (ov Y) Y Y Zx)<|Do 9 Y (Zj (ov Y) (ov Y) (Ze ZY) Y Y Y (Nat.le_of_ble_eq_true Y) (Zb Y) Y)<|ZX (by kernel_rfl) (Ent.trans (Ent.absorbH (r := 2) (j := 0) (q := 5) Y (Zm h_l3) Y Y (List.length_map ..) Y)<|Ent.closeS (r := 2) Y (Zm h_l3) Y)<|⟨_, h, ES [some 0, some 1, some 2, some 3, some 4] (hhp := .cons Y (ro1 (by exact tZ_26.symm)<|rld Y)<|.cons Y (ro1 (by exact tZ_26.symm)<|rlc (.dat Y)<|rlc (.dat Y)<|rlc (.own _ Y)<|rlc (.own _ Y)<|rlc (.own _ Y) rln)<|.cons Y (roO QN)<|.cons Y (roM D3)<|.cons Y (roM D4) .nil)⟩
          ·
           exact Dq 1 Y (Zs (ov Y) Y Y Y ZY Y)<|bE h fun l3 h_l3 h=>Do 7 Y (ZA (f := O49) (ov Y) (ZW (o := ⟨49, [[.own 5 y5.length]]⟩) (ov Y) Y Y tZ_49) ZQ Y Y (Zb Y) Y h_l3)<|Dq 8 Y (Zf (ov Y) Y Y Zx)<|Do 9 Y (Zj (ov Y) (ov Y) (Ze ZY) Y Y Y (Nat.le_of_ble_eq_true Y) (Zb Y) Y)<|ZX (by kernel_rfl) (Ent.trans (Ent.absorbH (r := 2) (j := 0) (q := 5) Y (Zm h_l3) Y Y (List.length_map ..) Y)<|Ent.closeS (r := 2) Y (Zm h_l3) Y)<|⟨_, h, ES [some 0, some 1, some 2, some 3, some 4] (hhp := .cons Y (ro1 (by exact tZ_26.symm)<|rld Y)<|.cons Y (ro1 (by exact tZ_26.symm)<|rlc (.dat Y)<|rlc (.dat Y)<|rlc (.own _ Y)<|rlc (.own _ Y)<|rlc (.own _ Y) rln)<|.cons Y (roO QN)<|.cons Y (roM D3)<|.cons Y (roM D4) .nil)⟩
        ·
         refine Dw 0 6 Y (Zf (ov Y) Y Y Zx) (Qk (r := 6) Y ZQ (.cons (cvs (ov Y)<|Zk Y) Y .nil) Y Y) ?_ ?_
         ·
          refine Dw 1 6 Y (Zs (ov Y) Y Y Y ZY Y) (Qk (r := 6) Y ZQ (.cons (cvs (ov Y)<|Zk Y) Y .nil) Y Y) ?_ ?_
          ·
           exact Do 6 Y (Qk (r := 6) Y ZQ (.cons (cvs (ov Y)<|Zk Y) Y .nil) Y Y)<|bE h fun l3 h_l3 h=>Do 7 Y (ZA (f := O49) (ov Y) (ZW (o := ⟨49, [[.own 5 y5.length]]⟩) (ov Y) Y Y tZ_49) ZQ Y Y (Zb Y) Y h_l3)<|Dq 8 Y (Zf (ov Y) Y Y Zx)<|Do 9 Y (Zj (ov Y) (ov Y) (Ze ZY) Y Y Y (Nat.le_of_ble_eq_true Y) (Zb Y) Y)<|ZX (by kernel_rfl) (Ent.trans (Ent.absorbH (r := 2) (j := 0) (q := 5) Y (Zm h_l3) Y Y (List.length_map ..) Y)<|Ent.closeS (r := 2) Y (Zm h_l3) Y)<|⟨_, h, ES [some 0, some 1, some 2, some 3, some 4] (hhp := .cons Y (ro1 (by exact tZ_26.symm)<|rld Y)<|.cons Y (ro1 (by exact tZ_26.symm)<|rlc (.dat Y)<|rlc (.dat Y)<|rlc (.own _ Y)<|rlc (.own _ Y)<|rlc (.own _ Y) rln)<|.cons Y (roO QN)<|.cons Y (roM D3)<|.cons Y (roM D4) .nil)⟩
          ·
           exact Dq 1 Y (Zs (ov Y) Y Y Y ZY Y)<|bE h fun l3 h_l3 h=>Do 7 Y (ZA (f := O49) (ov Y) (ZW (o := ⟨49, [[.own 5 y5.length]]⟩) (ov Y) Y Y tZ_49) ZQ Y Y (Zb Y) Y h_l3)<|Dq 8 Y (Zf (ov Y) Y Y Zx)<|Do 9 Y (Zj (ov Y) (ov Y) (Ze ZY) Y Y Y (Nat.le_of_ble_eq_true Y) (Zb Y) Y)<|ZX (by kernel_rfl) (Ent.trans (Ent.absorbH (r := 2) (j := 0) (q := 5) Y (Zm h_l3) Y Y (List.length_map ..) Y)<|Ent.closeS (r := 2) Y (Zm h_l3) Y)<|⟨_, h, ES [some 0, some 1, some 2, some 3, some 4] (hhp := .cons Y (ro1 (by exact tZ_26.symm)<|rld Y)<|.cons Y (ro1 (by exact tZ_26.symm)<|rlc (.dat Y)<|rlc (.dat Y)<|rlc (.own _ Y)<|rlc (.own _ Y)<|rlc (.own _ Y) rln)<|.cons Y (roO QN)<|.cons Y (roM D3)<|.cons Y (roM D4) .nil)⟩
         ·
          exact Dq 0 Y (Zf (ov Y) Y Y Zx)<|Dq 1 Y (Zs (ov Y) Y Y Y ZY Y)<|bE h fun l3 h_l3 h=>Do 7 Y (ZA (f := O49) (ov Y) (ZW (o := ⟨49, [[.own 5 y5.length]]⟩) (ov Y) Y Y tZ_49) ZQ Y Y (Zb Y) Y h_l3)<|Dq 8 Y (Zf (ov Y) Y Y Zx)<|Do 9 Y (Zj (ov Y) (ov Y) (Ze ZY) Y Y Y (Nat.le_of_ble_eq_true Y) (Zb Y) Y)<|ZX (by kernel_rfl) (Ent.trans (Ent.absorbH (r := 2) (j := 0) (q := 5) Y (Zm h_l3) Y Y (List.length_map ..) Y)<|Ent.closeS (r := 2) Y (Zm h_l3) Y)<|⟨_, h, ES [some 0, some 1, some 2, some 3, some 4] (hhp := .cons Y (ro1 (by exact tZ_26.symm)<|rld Y)<|.cons Y (ro1 (by exact tZ_26.symm)<|rlc (.dat Y)<|rlc (.dat Y)<|rlc (.own _ Y)<|rlc (.own _ Y)<|rlc (.own _ Y) rln)<|.cons Y (roO QN)<|.cons Y (roM D3)<|.cons Y (roM D4) .nil)⟩
     ·
      exact Zr<|R2 ZT Y<|Rm Y<|Za<|⟨_, h, ES [some 0, some 1, some 2, some 3, some 4] (hhp := .cons Y (ro1 (by exact tZ_26.symm)<|rld Y)<|.cons Y (ro1 (by exact tZ_26.symm)<|rlc (.dat Y)<|rlc (.dat Y)<|rlc (.own _ Y)<|rlc (.own _ Y)<|rlc (.own _ Y) rln)<|.cons Y (roO QN)<|.cons Y (roM D3)<|.cons Y (roM D4) .nil)⟩
    ·
     refine ZJ<|?_
     replace h := lx h ▸ ho1
     exact ⟨_, h, ES [some 0, some 1, some 2, some 3, some 4] (hhp := .cons Y (ro1 (by exact tZ_26.symm)<|rld Y)<|.cons Y (ro1 (by exact tZ_26.symm)<|rlc (.dat Y)<|rlc (.dat Y)<|rlc (.own _ Y)<|rlc (.own _ Y)<|rlc (.own _ Y) rln)<|.cons Y (roO QN)<|.cons Y (roM D3)<|.cons Y (roM D4) .nil)⟩
   ·
    refine Tr<|Rq Y (Qo (ov Y) Y Y Y QA Y Y)<|Rx Y (Zj (ov Y) (ov Y) (Zv QA Y) Y Y Y (Nat.le_of_ble_eq_true Y) (Zb Y) Y)<|Ra Y<|Za<|?_
    obtain rfl := rt h
    exact Zo (ZS Y (.two (.agg Y Y Y Y QA Y Y<|.cons (Dat.view<|.b Y)<|.cons (Dat.view<|.b Y)<|.cons (View.ownO Y Y QN (fun x=>(D49 x).1) ZlF)<|.cons (View.ownM Y Y D3)<|.cons (View.ownM Y Y D4) .nil)<|rb Y))
theorem Zd9 {l : List api_Memory} {r : Int} (h : JS l = some r) :
 CSpec Tryz.prog gl0 62 [.sl 26 (List.map R26 l)] (.int .i64 r) := by
 unfold JS at h
 replace h := Qm h
 refine So Tryz.func62 Y fun w0 A=>Tr<|Ra Y<|Za<|Zh<|K1 0 Y<|Tr<|Rm Y<|Rl tZ_26 Zdq Y<|bE h fun y h_y h=>Rq Y (Zp (QC h_y)<|.cons (ov Y) (.b Y)<|.cons (ov Y) (.b Y)<|.cons (ov Y) (.b Y) .nil)<|R1 Ji Y<|Za<|K2 0 9 Y<|If h Y (fun h=>?_) fun h=>?_
 ·
  refine K0<|Tr<|Ra Y<|Za<|?_
  obtain rfl := rt h
  exact Zo (ZS Y (.one<|rb Y))
 ·
  refine Zi<|J0 (fun j => (.inr j)) ⟨[], []⟩ h (fun h=>?_) fun h=>?_
  ·
   refine K1 0 Y<|Tr<|Rm Y<|Rl tZ_26 Zdq Y<|Rm Y<|Za<|Zg<|?_
   obtain ⟨r1, hl1, ho1⟩ := QU h
   refine L1 (fun i=>⟨[(10, .sl 26 (List.map R26 l)), (11, .int .i64 (l.length : Int)), (12, .int .i64 i)], []⟩) hl1 (ES []) fun n1 i h=>?_
   unfold Zam at h
   refine Tr<|R2 ZU Y<|Za<|Zh<|If h Y (fun h=>?_) fun h=>?_
   ·
    refine Zi<|Zh<|Zg<|K3 10 11 12 Y<|Tr<|bE h fun x h_x h=>Rq Y (Z4 (ov Y) (ov Y) Zdq h_x)<|Rq Y (Qb (ov Y) QA Y Y)<|Rx Y (Z9 (row := [_, _, _, _, _]) 0 Y ZaP Y tZ_26)<|Rx Y (Zj (ov Y) (ov Y) (Zv QA Y) Y Y Y (Nat.le_of_ble_eq_true Y) (Zb Y) Y)<|Za<|K4 4 10 11 12 Y<|Tr<|Rq Y (Qo (ov Y) Y Y Y QA Y Y)<|bE h fun y2 h_y2 h=>Rq Y (Zp (Jj h_y2)<|.cons (ov Y) (.aggB Y) .nil)<|Ra Y<|Za<|K4 5 10 11 12 Y<|Tr<|Rm Y<|R2 Xa Y<|Za<|K5 5 10 11 12 19 Y<|If h Y (fun h=>?_) fun h=>?_
    ·
     refine K1 5 Y<|Tr<|Rm Y<|Ra Y<|Za<|?_
     replace h := lx h ▸ ho1
     obtain rfl := rt h
     exact Zo (ZS Y (.one<|rb Y))
    ·
     exact Zi<|K3 10 11 12 Y<|Zr<|R2 ZT Y<|Rm Y<|Za<|⟨_, h, ES []⟩
   ·
    refine ZJ<|?_
    replace h := lx h ▸ ho1
    exact ⟨(), h, ES []⟩
  ·
   replace h := elr h
   replace h := t0i h
   refine Tr<|Ra Y<|Za<|?_
   obtain rfl := rt h
   exact Zo (ZS Y (.one<|rb Y))
theorem Zgo {l : List api_Memory} {r : (List api_Memory)} (h : Ja l = some r) :
 GSpec Tryz.prog gl0 63 [.sl 26 (List.map R26 l)] [] (.own 0 r.length) [some ⟨26, List.map O26 r⟩] := by
 unfold Ja at h
 replace h := Qm h
 refine QF (by kernel_rfl) Tryz.func63 Y Y<|?_
 intro w0 A W φ0
 refine Tr<|Ra Y<|Za<|K1 0 Y<|Tr<|Ra Y<|Za<|I1 (fun out=>⟨[(3, .own 0 out.length)], [some ⟨26, List.map O26 out⟩]⟩) h (fun h=>?_) fun out h=>?_
 ·
  refine Tr<|Rm Y<|Rl tZ_26 Zdq Y<|Rm Y<|Za<|Zg<|?_
  obtain ⟨r1, hl1, ho1⟩ := QU h
  refine L2 (fun out2 i=>⟨[(3, .own 0 out2.length), (6, .sl 26 (List.map R26 l)), (7, .int .i64 (l.length : Int)), (8, .int .i64 i)], [some ⟨26, List.map O26 out2⟩]⟩) hl1 (ES [none]) fun n1 out2 i h=>?_
  unfold JL at h
  refine Tr<|R2 ZU Y<|Za<|Zh<|If h Y (fun h=>?_) fun h=>?_
  ·
   exact Zi<|Zh<|Zg<|K4 3 6 7 8 Y<|Tr<|bE h fun x h_x h=>Rq Y (Z4 (ov Y) (ov Y) Zdq h_x)<|Rq Y (Qb (ov Y) QA Y Y)<|Rx Y (Z9 (row := [_, _, _, _, _]) 1 Y ZaP Y tZ_26)<|Rx Y (Zj (ov Y) (ov Y) (Zv QA Y) Y Y Y (Nat.le_of_ble_eq_true Y) (Zb Y) Y)<|Za<|K5 3 5 6 7 8 Y<|QG [some ⟨26, List.map O26 out2⟩, some ⟨26, [[.int .i64 x.Slots, .int .i64 x.Limit, .sl 49 (List.map R49 x.Sectors), .sl 3 (List.map R3 x.Wear), .sl 4 (List.map R4 x.Bad)]]⟩] Y<|Zr<|Rm Y<|Rq Y (Qo (ov Y) Y Y Y QA Y Y)<|bE h fun y h_y h=>Rx Y (ZG [] (J6 h_y) (.cons (ov Y) (ZaG<|rld Y) .nil) .nil Y (.keep Y Y<|.keep Y Y<|.lent 0 (.inr ⟨Nat.le_of_ble_eq_true Y, Y⟩) Y (roO QN)<|.lent 1 (.inr ⟨Nat.le_of_ble_eq_true Y, Y⟩) Y (roM D3)<|.lent 2 (.inr ⟨Nat.le_of_ble_eq_true Y, Y⟩) Y (roM D4) .nil) Y Y<|ZaG<|rlc (.dat Y)<|rlc (.dat Y)<|rlc (.own _<|.inr ⟨Nat.le_of_ble_eq_true Y, Y⟩)<|rlc (.own _<|.inr ⟨Nat.le_of_ble_eq_true Y, Y⟩)<|rlc (.own _<|.inr ⟨Nat.le_of_ble_eq_true Y, Y⟩) rln)<|Rx Y (Qk (r := 5) Y Zdq (.cons (cva<|ov Y) Y .nil) Y Y)<|bE h fun l2 h_l2 h=>Rx Y (ZA (f := O26) (ov Y) (ZW (o := ⟨26, [[.int .i64 y.Slots, .int .i64 y.Limit, .own 2 y.Sectors.length, .own 3 y.Wear.length, .own 4 y.Bad.length]]⟩) (ov Y) Y Y tZ_26) Zdq Y Y (Zb Y) Y h_l2)<|Ra Y<|Zen [some ⟨26, List.set (List.map O26 l2) out2.length [.int .i64 y.Slots, .int .i64 y.Limit, .own 2 y.Sectors.length, .own 3 y.Wear.length, .own 4 y.Bad.length]⟩, some ⟨26, [[.int .i64 x.Slots, .int .i64 x.Limit, .sl 49 (List.map R49 x.Sectors), .sl 3 (List.map R3 x.Wear), .sl 4 (List.map R4 x.Bad)]]⟩, some ⟨49, List.map O49 y.Sectors⟩, some ⟨3, List.map R3 y.Wear⟩, some ⟨4, List.map R4 y.Bad⟩, some ⟨26, [[.int .i64 y.Slots, .int .i64 y.Limit, .own 2 y.Sectors.length, .own 3 y.Wear.length, .own 4 y.Bad.length]]⟩] Y<|QZ (Ent.absorbH (r := 0) (j := 2) (q := 2) Y (Zm h_l2) Y Y (List.length_map ..) Y)<|QZ (Ent.absorbH (r := 0) (j := 3) (q := 3) Y (Zm h_l2) Y Y (List.length_map ..) Y)<|QZ (Ent.absorbH (r := 0) (j := 4) (q := 4) Y (Zm h_l2) Y Y (List.length_map ..) Y)<|QZ (Ent.closeS (r := 0) Y (Zm h_l2) Y)<|Za<|K4 3 6 7 8 Y<|QG [some ⟨26, List.map O26 l2⟩, some ⟨26, [[.int .i64 x.Slots, .int .i64 x.Limit, .sl 49 (List.map R49 x.Sectors), .sl 3 (List.map R3 x.Wear), .sl 4 (List.map R4 x.Bad)]]⟩, none, none, none, some ⟨26, [[.int .i64 y.Slots, .int .i64 y.Limit, .own 2 y.Sectors.length, .own 3 y.Wear.length, .own 4 y.Bad.length]]⟩] Y<|Zr<|R2 ZT Y<|Rm Y<|Za<|⟨_, h, ES [some 0] (hhp := .cons Y (roO XZ) .nil)⟩
  ·
   refine ZJ<|?_
   replace h := lx h ▸ ho1
   exact ⟨_, h, ES [some 0] (hhp := .cons Y (roO XZ) .nil)⟩
 ·
  refine Tr<|Rm Y<|Ra Y<|Za<|?_
  obtain rfl := rt h
  exact Zo<|JN [some 0] Y (.cons (.tmp Y) .nil) (.cons Y (roO XZ) .nil) Y Y<|.own _ Y
end Go.Proofs.YtnlmjeleocelgaaGreatDoor
