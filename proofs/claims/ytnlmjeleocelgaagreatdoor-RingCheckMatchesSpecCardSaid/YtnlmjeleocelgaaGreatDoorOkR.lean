/- A text of the proof: a verified executor of the program form, or the contracts of the functions that the law reaches. -/
import Derived.Test.YtnlmjeleocelgaaGreatDoorOkRc
set_option linter.all false
namespace Go.Proofs.YtnlmjeleocelgaaGreatDoor
open Go Go.Vx
set_option maxRecDepth 10000
set_option maxHeartbeats 1000000
set_option linter.unusedVariables false
theorem Zc7 {r_ : ring_Recorder} {r : (List api_Memory)} (h : Q5 r_ = some r) :
 GSpec Tryz.prog gl0 16 [.ptr 0 1 0 0] [some ⟨102, [[.own 1 r_.bank.memories.length, .own 2 r_.bank.spots.length, .int .i64 r_.copies, .bool r_.frozen, .bool r_.stopped, .int .i64 r_.last, .bool r_.some_]]⟩, some ⟨26, List.map O26 r_.bank.memories⟩, some ⟨105, List.map R105 r_.bank.spots⟩] (.sl 26 (List.map R26 r)) [some ⟨102, [[.sl 26 (List.map R26 r_.bank.memories), .own 3 r_.bank.spots.length, .int .i64 r_.copies, .bool r_.frozen, .bool r_.stopped, .int .i64 r_.last, .bool r_.some_]]⟩, none, none, some ⟨105, List.map R105 r_.bank.spots⟩] := by
 unfold Q5 at h
 replace h := Qm h
 refine QF (by kernel_rfl) Tryz.func16 Y Y<|?_
 intro w0 A W φ0
 refine ZfN (Ent.sel [some 0, some 1, some 2, some 1, some 2] (sr 0 Y (.ptr (r' := 0) _ _ _ Y) sn) (.cons Y (ro1 (by exact tZ_102.symm)<|rlc (.own (r' := 3) _ Y)<|rlc (.own (r' := 4) _ Y)<|rlc (.dat Y)<|rlc (.dat Y)<|rlc (.dat Y)<|rlc (.dat Y)<|rlc (.dat Y) rln)<|.dead<|.dead<|.cons Y (roO XZ)<|.cons Y (roM D105) .nil) Y Y)<|QG [some ⟨102, [[.own 3 r_.bank.memories.length, .own 4 r_.bank.spots.length, .int .i64 r_.copies, .bool r_.frozen, .bool r_.stopped, .int .i64 r_.last, .bool r_.some_]]⟩, none, none, some ⟨26, List.map O26 r_.bank.memories⟩, some ⟨105, List.map R105 r_.bank.spots⟩] Y<|Tr<|Ra Y<|Za<|Tr<|Rm Y<|Rq Y (ZB (ov Y) Y Y)<|Rq Y (Zf (ov Y) Y Y ZdP)<|Rq Y (Zf (ov Y) Y Y Zc1)<|Rq Y (Zs (ov Y) Y Y Y Zi6 Y)<|bE h fun y h_y h=>QZ (Ent.meltO (r := 3) Y XZ (fun x=>(D26 x).1) Zkd)<|QZ (Ent.sel [some 0, some 1, some 2, none, some 4] (sr 0 Y (.ptr (r' := 0) _ _ _ Y)<|sd 2 Y Y<|sr 3 Y (.ptr (r' := 0) _ _ _ Y)<|sr 4 Y (.ptr (r' := 0) _ _ _ Y)<|sr 5 Y (.ptr (r' := 0) _ _ _ Y)<|sr 6 Y (.ptr (r' := 0) _ _ _ Y)<|sr 7 Y (Znr Y Y Y D26) sn) (.cons Y (ro1 (by exact tZ_102.symm)<|rlc (Znr Y Y Y D26)<|rlc (.own (r' := 4) _ Y)<|rlc (.dat Y)<|rlc (.dat Y)<|rlc (.dat Y)<|rlc (.dat Y)<|rlc (.dat Y) rln)<|.dead<|.dead<|.row 26<|.cons Y (roM D105) .nil) Y Y)<|Rq Y (Zp (Zhv h_y)<|.cons (ov Y) (.b Y) .nil)<|Ra Y<|Za<|?_
 obtain rfl := rt h
 exact Zo<|JN [some 0, some 1, some 2, some 4] Y (.cons (.tmp Y) .nil) (.cons Y (ro1 (by exact tZ_102.symm)<|rlc (.dat Y)<|rlc (.own _ Y)<|rlc (.dat Y)<|rlc (.dat Y)<|rlc (.dat Y)<|rlc (.dat Y)<|rlc (.dat Y) rln)<|.dead<|.dead<|.cons Y (roM D105) .nil) Y Y<|.dat Y
theorem Zhy {p : Vector Int 96} {i : Int} {r : Int} (h : ZbO p i = some r) :
 CSpec Tryz.prog gl0 139 [.rp (List.map C5 p.toList) 0, .int .i64 i] (.int .u16 r) := by
 unfold ZbO at h
 replace h := Qm h
 refine So Tryz.func139 Y fun w0 A=>Tr<|Ra Y<|Za<|K2 0 1 Y<|Tr<|Rm Y<|bE h fun q h_q h=>Rq Y (Zge (ov Y) (ov Y) h_q)<|R2 Ze0 Y<|Ra Y<|Za<|Zh<|K3 0 1 5 Y<|Tr<|Rm Y<|bE h fun q2 h_q2 h=>Rq Y (ZaC (ov Y) (ov Y) h_q2)<|R2 Zbd Y<|Za<|K3 0 5 11 Y<|If h Y (fun h=>?_) fun h=>?_
 ·
  refine Zh<|K2 0 5 Y<|Qf (cw := md0) (by kernel_rfl)<|D1 0 Zc Y<|D1 1 Zc Y<|D1 2 ZO Y<|bE h fun x h_x h=>Dq 3 Y (Xe (ov Y) (ov Y) ZdE h_x)<|Dq 4 Y (Zd (ov Y) tS5<|QP<|XR (o := 0) (o' := ((i64 (q * 3)).toNat * 1)) (Zz arL)<|XK h_x)<|Dq 5 Y (Qj (ov Y) tI5 Zdx Y)<|bE h fun q3 h_q3 h=>Dq 6 Y (ZeE (ov Y) (ov Y) h_q3)<|D1 7 Zc Y<|D1 8 Zc Y<|D2 9 ZT Y<|D1 10 ZO Y<|bE h fun x2 h_x2 h=>Dq 11 Y (Xe (ov Y) (ov Y) ZdE h_x2)<|Dq 12 Y (Zd (ov Y) tS5<|QP<|XR (o := 0) (o' := ((i64 ((i64 (q * 3)) + 1)).toNat * 1)) (Zz arL)<|XK h_x2)<|Dq 13 Y (Qj (ov Y) tI5 Zdx Y)<|bE h fun q4 h_q4 h=>Dq 14 Y (Zag (ov Y) (ov Y) h_q4)<|D2 15 ZfO Y<|D1 16 Ql Y<|Dd<|?_
  obtain rfl := rt h
  exact Zo (ZS Y (.one<|rb Y))
 ·
  refine Zi<|Zh<|K2 0 5 Y<|Qf (cw := md0) (by kernel_rfl)<|D1 0 Zc Y<|D1 1 Zc Y<|D2 2 ZT Y<|D1 3 ZO Y<|bE h fun x3 h_x3 h=>Dq 4 Y (Xe (ov Y) (ov Y) ZdE h_x3)<|Dq 5 Y (Zd (ov Y) tS5<|QP<|XR (o := 0) (o' := ((i64 ((i64 (q * 3)) + 1)).toNat * 1)) (Zz arL)<|XK h_x3)<|Dq 6 Y (Qj (ov Y) tI5 Zdx Y)<|D2 7 Za7 Y<|bE h fun q5 h_q5 h=>Dq 8 Y (ZeE (ov Y) (ov Y) h_q5)<|D1 9 Zc Y<|D1 10 Zc Y<|D2 11 ZT Y<|D1 12 ZO Y<|bE h fun x4 h_x4 h=>Dq 13 Y (Xe (ov Y) (ov Y) ZdE h_x4)<|Dq 14 Y (Zd (ov Y) tS5<|QP<|XR (o := 0) (o' := ((i64 ((i64 (q * 3)) + 2)).toNat * 1)) (Zz arL)<|XK h_x4)<|Dq 15 Y (Qj (ov Y) tI5 Zdx Y)<|D2 16 ZfO Y<|D1 17 Ql Y<|Dd<|?_
  obtain rfl := rt h
  exact Zo (ZS Y (.one<|rb Y))
theorem ZiA {p : Vector Int 96} {r : (Vector Int 64)} (h : Zdn p = some r) :
 CSpec Tryz.prog gl0 118 [.rp (List.map C5 p.toList) 0] (.agg (List.map C40 r.toList)) := by
 unfold Zdn at h
 replace h := Qm h
 refine So Tryz.func118 Y fun w0 A=>Tr<|Rx Y (Z9 (row := (List.map C40 (Vector.replicate 64 0).toList)) 0 Y ZgD Y tZ_42)<|Za<|Tr<|Rx Y (Z9 (row := (List.map C40 (Vector.replicate 64 0).toList)) 1 Y ZgD Y tZ_42)<|Za<|I1 (fun f=>⟨[(2, .ptr 0 1 0 0), (3, .ptr 1 1 0 0)], [some ⟨42, [(List.map C40 (Vector.replicate 64 0).toList)]⟩, some ⟨42, [(List.map C40 f.toList)]⟩]⟩) h (fun h=>?_) fun f h=>?_
 ·
  refine Tr<|Rm Y<|Za<|Zg<|?_
  obtain ⟨r1, hl1, ho1⟩ := QU h
  refine L2 (fun f2 i=>⟨[(0, .rp (List.map C5 p.toList) 0), (2, .ptr 0 1 0 0), (3, .ptr 1 1 0 0), (5, .int .i64 i)], [some ⟨42, [(List.map C40 (Vector.replicate 64 0).toList)]⟩, some ⟨42, [(List.map C40 f2.toList)]⟩]⟩) hl1 (ES [some 0, some 1]) fun n1 f2 i h=>?_
  unfold Zct at h
  refine Tr<|R2 ZU Y<|Za<|Zh<|If h Y (fun h=>?_) fun h=>?_
  ·
   exact Zi<|Zh<|Zg<|K4 0 2 3 5 Y<|Tr<|Rm Y<|Ra Y<|Za<|K5 0 2 3 4 5 Y<|Zr<|Rm Y<|Rm Y<|Rm Y<|bE h fun y h_y h=>Rq Y (Zp (Zhy h_y)<|.cons (ov Y) (.b Y)<|.cons (ov Y) (.b Y) .nil)<|bE h fun x h_x h=>Rq Y (JW (ov Y) (ov Y) ZaE Y Y h_x)<|Rx Y (Zj (ov Y) (ov Y) (Ze ZbC) Y Y Y (arB h_x) (Zb Y)<|arS h_x)<|Za<|K4 0 2 3 5 Y<|Zr<|R2 ZT Y<|Rm Y<|Za<|⟨_, h, ES [some 0, some 1]⟩
  ·
   refine ZJ<|?_
   replace h := lx h ▸ ho1
   exact ⟨_, h, ES [some 0, some 1]⟩
 ·
  refine Tr<|Rq Y (Qo (ov Y) Y Y Y Ju (Q4<|Zz arL) arL (hns := (nsM fun _ => Y)))<|Rx Y (Zj (ov Y) (ov Y) (Zv Ju arL) Y Y Y (Za4 (Zz arL) arL) (Zb<|arC fun _ => Y)<|JE<|Eq.trans arL<|Eq.symm arL)<|Za<|?_
  obtain rfl := rt h
  exact Zo (ZS Y (.one<|.agg Y Y Y Y Ju (Q4<|Zz arL) arL (pwB<|arD fun _ => Y) (hns := (nsM fun _ => Y))))
theorem Zf2 {b : List Int} {r : (Vector Int 64) × Int} (h : JQ b = some r) :
 CSpec Tryz.prog gl0 79 [.sl 5 (List.map R5 b)] (.tuple [.agg (List.map C40 r.1.toList), .int .i64 r.2]) := by
 unfold JQ at h
 replace h := Qm h
 refine So Tryz.func79 Y fun w0 A=>Tr<|Rx Y (Z9 (row := (List.map C40 (Vector.replicate 64 0).toList)) 0 Y ZgD Y tZ_42)<|Ra Y<|Za<|Zh<|K2 0 2 Y<|Tr<|Rm Y<|Rl tZ_5 Qp Y<|R2 ZU Y<|Za<|K3 0 2 7 Y<|If h Y (fun h=>?_) fun h=>?_
 ·
  refine K1 2 Y<|Tr<|R_q (.agg<|List.map C40 (#v[0, 0, 0, 0, 0, 0, 0, 0, 0, 0, 0, 0, 0, 0, 0, 0, 0, 0, 0, 0, 0, 0, 0, 0, 0, 0, 0, 0, 0, 0, 0, 0, 0, 0, 0, 0, 0, 0, 0, 0, 0, 0, 0, 0, 0, 0, 0, 0, 0, 0, 0, 0, 0, 0, 0, 0, 0, 0, 0, 0, 0, 0, 0, 0] : Vector Int 64).toList) Y (Zd5 (ys := [_, _, _, _, _, _, _, _, _, _, _, _, _, _, _, _, _, _, _, _, _, _, _, _, _, _, _, _, _, _, _, _, _, _, _, _, _, _, _, _, _, _, _, _, _, _, _, _, _, _, _, _, _, _, _, _, _, _, _, _, _, _, _, _]) ZaE ZgD .nil Y)<|Rx Y (Zj (ov Y) (ov Y) (Zv Ju arL) Y Y Y (Za4 (Zz arL) arL) (Zb<|arC fun _ => Y)<|JE<|Eq.trans arL<|Eq.symm arL)<|Ra Y<|Za<|?_
  obtain rfl := rt h
  exact Zo (ZS Y (.two (.agg Y Y Y Y Ju (Q4<|Zz arL) arL (pwB<|arD fun _ => Y) (hns := (nsM fun _ => Y)))<|rb Y))
 ·
  refine Zi<|K2 0 2 Y<|Tr<|Rm Y<|bE h fun l h_l h=>Rq Y (ZgI (ov Y) Qp on (oi<|ov Y) h_l)<|bE h fun v h_v h=>Rq Y (Zkg (f := C5) (ov Y) ZdE tZ_5 Y h_v)<|Rq Y (Qb (ov Y) ZmD (Q4<|Zz arL) arL)<|Rx Y (Z9 (row := (List.map C5 (Vector.replicate 96 0).toList)) 1 Y ZmB Y tZ_157)<|Rx Y (Zj (ov Y) (ov Y) (Zv ZmD arL) Y Y Y (Za4 (Zz arL) arL) (Zb<|arC fun _ => Y)<|JE<|Eq.trans arL<|Eq.symm arL)<|Za<|K2 2 4 Y<|Tr<|bE h fun y h_y h=>Rq Y (Zco (ZiA h_y) (Zjm fun _=>.int)<|.cons (ov Y) (View.ptr Y Y Y (pwB<|arD fun _ => Y) (hns := (nsM fun _ => Y))) .nil)<|Rx Y (Zj (ov Y) (ov Y) (Zv Ju arL) Y Y Y (Za4 (Zz arL) arL) (Zb<|arC fun _ => Y)<|JE<|Eq.trans arL<|Eq.symm arL)<|Ra Y<|Za<|?_
  obtain rfl := rt h
  exact Zo (ZS Y (.two (.agg Y Y Y Y Ju (Q4<|Zz arL) arL (pwB<|arD fun _ => Y) (hns := (nsM fun _ => Y)))<|rb Y))
theorem Zhw {l : List api_Memory} {r : (List api_Kept) × Int} (h : ZbR l = some r) :
 CSpec Tryz.prog gl0 26 [.sl 26 (List.map R26 l)] (.tuple [.sl 65 (List.map R65 r.1), .int .i64 r.2]) := by
 unfold ZbR at h
 replace h := Qm h
 refine So Tryz.func26 Y fun w0 A=>Tr<|Ra Y<|Ra Y<|Za<|Zh<|K1 0 Y<|Tr<|Rm Y<|bE h fun y h_y h=>Rq Y (Zp (Zd9 h_y)<|.cons (ov Y) (.b Y) .nil)<|Ra Y<|Za<|K2 0 4 Y<|Tr<|Rm Y<|R2 Xa Y<|Za<|K3 0 4 20 Y<|If h Y (fun h=>?_) fun h=>?_
 ·
  refine K1 4 Y<|Tr<|Rm Y<|Ra Y<|Ra Y<|Za<|?_
  obtain rfl := rt h
  exact Zo (ZS Y (.two (.tmp Y<|View.nils 65)<|rb Y))
 ·
  refine Zi<|K1 0 Y<|Tr<|Ra Y<|Za<|I1 (fun out=>⟨[(5, .own 0 out.length)], [some ⟨65, List.map R65 out⟩]⟩) h (fun h=>?_) fun out h=>?_
  ·
   refine Tr<|Rm Y<|Rl tZ_26 Zdq Y<|Rm Y<|Za<|Zg<|?_
   obtain ⟨r1, hl1, ho1⟩ := QU h
   refine L2 (fun out2 i=>⟨[(5, .own 0 out2.length), (22, .sl 26 (List.map R26 l)), (23, .int .i64 (l.length : Int)), (24, .int .i64 i)], [some ⟨65, List.map R65 out2⟩]⟩) hl1 (ES [none]) fun n1 out2 i h=>?_
   unfold ZaW at h
   refine Tr<|R2 ZU Y<|Za<|Zh<|If h Y (fun h=>?_) fun h=>?_
   ·
    refine Zi<|I1 (fun out3=>⟨[(5, .own 0 out3.length), (22, .sl 26 (List.map R26 l)), (23, .int .i64 (l.length : Int)), (24, .int .i64 i)], [some ⟨65, List.map R65 out3⟩]⟩) h (fun h=>?_) fun out3 h=>?_
    ·
     refine Zg<|K4 5 22 23 24 Y<|Tr<|Rm Y<|bE h fun x h_x h=>Rq Y (Z4 (ov Y) (ov Y) Zdq h_x)<|Rq Y (Qb (ov Y) QA Y Y)<|Rx Y (Z9 (row := [_, _, _, _, _]) 1 Y ZaP Y tZ_26)<|Ra Y<|Rx Y (Zj (ov Y) (ov Y) (Zv QA Y) Y Y Y (Nat.le_of_ble_eq_true Y) (Zb Y) Y)<|Za<|K6 5 6 7 22 23 24 Y<|Tr<|Rq Y (Qo (ov Y) Y Y Y QA Y Y)<|bE h fun y2 h_y2 h=>Rq Y (Zp (ZcL h_y2)<|.cons (ov Y) (.aggB Y) .nil)<|Rl tZ_3 QB Y<|Rm Y<|Za<|Zg<|?_
     obtain ⟨r2, hl2, ho2⟩ := QU h
     refine L2 (fun out4 i2=>⟨[(5, .own 0 out4.length), (6, .int .i64 i), (7, .ptr 1 1 0 0), (22, .sl 26 (List.map R26 l)), (23, .int .i64 (l.length : Int)), (24, .int .i64 i), (30, .sl 3 (List.map R3 y2)), (31, .int .i64 (y2.length : Int)), (32, .int .i64 i2)], [some ⟨65, List.map R65 out4⟩, some ⟨26, [[.int .i64 x.Slots, .int .i64 x.Limit, .sl 49 (List.map R49 x.Sectors), .sl 3 (List.map R3 x.Wear), .sl 4 (List.map R4 x.Bad)]]⟩]⟩) hl2 (ES [some 0, some 1]) fun n2 out4 i2 h=>?_
     unfold ZaS at h
     refine Tr<|R2 ZU Y<|Za<|Zh<|If h Y (fun h=>?_) fun h=>?_
     ·
      refine Zi<|I1 (fun out5=>⟨[(5, .own 0 out5.length), (6, .int .i64 i), (7, .ptr 1 1 0 0), (22, .sl 26 (List.map R26 l)), (23, .int .i64 (l.length : Int)), (24, .int .i64 i), (30, .sl 3 (List.map R3 y2)), (31, .int .i64 (y2.length : Int)), (32, .int .i64 i2)], [some ⟨65, List.map R65 out5⟩, some ⟨26, [[.int .i64 x.Slots, .int .i64 x.Limit, .sl 49 (List.map R49 x.Sectors), .sl 3 (List.map R3 x.Wear), .sl 4 (List.map R4 x.Bad)]]⟩]⟩) h (fun h=>?_) fun out5 h=>?_
      ·
       refine Zg<|K9 5 6 7 22 23 24 30 31 32 Y<|Tr<|bE h fun x2 h_x2 h=>Rq Y (Z4 (ov Y) (ov Y) QB h_x2)<|Rq Y (Zd (ov Y) tS3 Y)<|Ra Y<|Za<|K10 5 6 7 9 22 23 24 30 31 32 Y<|Tr<|Rq Y (Zf (ov Y) Y Y Zx)<|Rq Y (Zs (ov Y) Y Y Y ZY Y)<|Rm Y<|bE h fun x3 h_x3 h=>Rq Y (Z4 (ov Y) (ov Y) ZQ h_x3)<|Rq Y (Zd (ov Y) ZdQ Y)<|bE h fun y3 h_y3 h=>Rq Y (Zp (ZbP h_y3)<|.cons (ov Y) (.b Y) .nil)<|Rm Y<|Rq Y (Zn (ov Y) Y)<|Rq Y (Zn (ov Y) Y)<|Rq Y (Zn (ov Y) Y)<|Ra Y<|Ra Y<|Ra Y<|Za<|K11 5 6 7 9 10 22 23 24 30 31 32 Y<|Tr<|Rq Y (Zf (ov Y) Y Y ZeB)<|Rq Y (Zs (ov Y) Y Y Y tS3 Y)<|Rm Y<|Za<|Zg<|?_
       obtain ⟨r3, hl3, ho3⟩ := QU h
       refine L2 (fun out6 i3=>⟨[(5, .own 0 out6.length), (6, .int .i64 i), (7, .ptr 1 1 0 0), (9, .int .i64 x2), (10, .int .i64 y3.1), (22, .sl 26 (List.map R26 l)), (23, .int .i64 (l.length : Int)), (24, .int .i64 i), (30, .sl 3 (List.map R3 y2)), (31, .int .i64 (y2.length : Int)), (32, .int .i64 i2), (47, .int .i64 x.Slots), (48, .int .i64 i3)], [some ⟨65, List.map R65 out6⟩, some ⟨26, [[.int .i64 x.Slots, .int .i64 x.Limit, .sl 49 (List.map R49 x.Sectors), .sl 3 (List.map R3 x.Wear), .sl 4 (List.map R4 x.Bad)]]⟩]⟩) hl3 (ES [some 0, some 1]) fun n3 out6 i3 h=>?_
       unfold ZaV at h
       refine Tr<|R2 ZU Y<|Za<|Zh<|If h Y (fun h=>?_) fun h=>?_
       ·
        refine Zi<|Zh<|Zg<|Je (kc 5 Y<|kc 6 Y<|kc 7 Y<|kc 9 Y<|kc 10 Y<|kc 22 Y<|kc 23 Y<|kc 24 Y<|kc 30 Y<|kc 31 Y<|kc 32 Y<|kc 47 Y<|kc 48 Y kn) Y<|Tr<|Rm Y<|Ra Y<|Za<|Je (kc 5 Y<|kc 6 Y<|kc 7 Y<|kc 9 Y<|kc 10 Y<|kc 13 Y<|kc 22 Y<|kc 23 Y<|kc 24 Y<|kc 30 Y<|kc 31 Y<|kc 32 Y<|kc 47 Y<|kc 48 Y kn) Y<|Tr<|Rq Y (Zf (ov Y) Y Y Zx)<|Rq Y (Zs (ov Y) Y Y Y ZY Y)<|Rm Y<|bE h fun x4 h_x4 h=>Rq Y (Z4 (ov Y) (ov Y) ZQ h_x4)<|Rq Y (Zd (ov Y) ZdQ Y)<|Rm Y<|bE h fun y4 h_y4 h=>Rq Y (Zp (Zfm h_y4)<|.cons (ov Y) (.b Y)<|.cons (ov Y) (.b Y) .nil)<|Ra Y<|Za<|Je (kc 5 Y<|kc 6 Y<|kc 7 Y<|kc 9 Y<|kc 10 Y<|kc 13 Y<|kc 14 Y<|kc 22 Y<|kc 23 Y<|kc 24 Y<|kc 30 Y<|kc 31 Y<|kc 32 Y<|kc 47 Y<|kc 48 Y kn) Y<|Tr<|Rm Y<|bE h fun y5 h_y5 h=>Rq Y (Zp (ZeO h_y5)<|.cons (ov Y) (.b Y) .nil)<|R2 Zbd Y<|Za<|Je (kc 5 Y<|kc 6 Y<|kc 7 Y<|kc 9 Y<|kc 10 Y<|kc 13 Y<|kc 14 Y<|kc 22 Y<|kc 23 Y<|kc 24 Y<|kc 30 Y<|kc 31 Y<|kc 32 Y<|kc 47 Y<|kc 48 Y<|kc 60 Y kn) Y<|If h Y (fun h=>?_) fun h=>?_
        ·
         exact Je (kc 5 Y<|kc 6 Y<|kc 7 Y<|kc 9 Y<|kc 10 Y<|kc 13 Y<|kc 14 Y<|kc 22 Y<|kc 23 Y<|kc 24 Y<|kc 30 Y<|kc 31 Y<|kc 32 Y<|kc 47 Y<|kc 48 Y kn) Y<|Tr<|Rm Y<|R1 ZO Y<|bE h fun l2 h_l2 h=>Rq Y (ZkA (f := C5) (ov Y) Zkl tZ_5 (Zz arL) Y on on h_l2)<|bE h fun y6 h_y6 h=>Rq Y (Zp (Zf2 h_y6)<|.cons (ov Y) (.b Y) .nil)<|Rm Y<|Rq Y (Zn (ov Y) Y)<|Rq Y (Zn (ov Y) Y)<|Rx Y (Z9 (row := (List.map C40 (Vector.replicate 64 0).toList)) 2 Y ZgD Y tZ_42)<|Rx Y (Zj (ov Y) (ov Y) (Zv Ju arL) Y Y Y (Za4 (Zz arL) arL) (Zb<|arC fun _ => Y)<|JE<|Eq.trans arL<|Eq.symm arL)<|Ra Y<|Za<|Je (kc 5 Y<|kc 6 Y<|kc 7 Y<|kc 9 Y<|kc 10 Y<|kc 13 Y<|kc 15 Y<|kc 22 Y<|kc 23 Y<|kc 24 Y<|kc 30 Y<|kc 31 Y<|kc 32 Y<|kc 47 Y<|kc 48 Y kn) Y<|Zr<|Rm Y<|Rm Y<|Rm Y<|Rm Y<|Rm Y<|Rq Y (Qo (ov Y) Y Y Y Ju (Q4<|Zz arL) arL (hns := (nsM fun _ => Y)))<|Rq Y (Zlj (zr := (.int .i64 0) :: (.int .i64 0) :: (.int .i64 0) :: (.int .i64 0) :: ((List.map C40 (Vector.replicate 64 0).toList) ++ ([]))) ZnH Zns ZmO (by kernel_rfl) (.cons (cvs (ov Y)<|Zk Y)<|.cons (cvs (ov Y)<|Zk Y)<|.cons (cvs (ov Y)<|Zk Y)<|.cons (cvs (ov Y)<|Zk Y)<|.cons (cva<|ov Y) .nil)<|Zgp Y Y at1 pt2<|Zgp Y Y at3 pt4<|Zgp Y Y at5 pt6<|Zgp Y Y at7 pt8<|Zgp Y arL at9 ZnX ZmZ)<|R_q (.sl 65<|List.map R65 ([(api_Kept.mk i x2 y3.1 i3 y6.1)] : List api_Kept)) Y (Jh ZlY (.cons (cva<|ov Y) ZdA (pwD Zgb) .nil) Y Y)<|bE h fun l3 h_l3 h=>Rx Y (Q7 (ov Y) (Qs (ov Y) tZ_65) ZlY Y Y Y (fun x=>Zb<|E65 x) Y h_l3)<|Ra Y<|Za<|Je (kc 5 Y<|kc 6 Y<|kc 7 Y<|kc 9 Y<|kc 10 Y<|kc 22 Y<|kc 23 Y<|kc 24 Y<|kc 30 Y<|kc 31 Y<|kc 32 Y<|kc 47 Y<|kc 48 Y kn) Y<|Zr<|R2 ZT Y<|Rm Y<|Za<|⟨_, h, ES [some 0, some 1]⟩
        ·
         exact Zi<|Je (kc 5 Y<|kc 6 Y<|kc 7 Y<|kc 9 Y<|kc 10 Y<|kc 22 Y<|kc 23 Y<|kc 24 Y<|kc 30 Y<|kc 31 Y<|kc 32 Y<|kc 47 Y<|kc 48 Y kn) Y<|Zr<|R2 ZT Y<|Rm Y<|Za<|⟨_, h, ES [some 0, some 1]⟩
       ·
        refine ZJ<|?_
        replace h := lx h ▸ ho3
        exact ⟨_, h, ES [some 0, some 1]⟩
      ·
       exact Zr<|R2 ZT Y<|Rm Y<|Za<|⟨_, h, ES [some 0, some 1]⟩
     ·
      refine ZJ<|?_
      replace h := lx h ▸ ho2
      exact ⟨_, h, ES [some 0]⟩
    ·
     exact Zr<|R2 ZT Y<|Rm Y<|Za<|⟨_, h, ES [some 0]⟩
   ·
    refine ZJ<|?_
    replace h := lx h ▸ ho1
    exact ⟨_, h, ES [some 0]⟩
  ·
   refine Tr<|Rm Y<|Ra Y<|Ra Y<|Za<|?_
   obtain rfl := rt h
   exact Zo (ZS Y (.two (.tmp Y<|View.ownM Y Y D65)<|rb Y))
theorem ZkG {xs r : List Int} (h : Zho xs = some r) :
    GSpec Tryz.prog gl0 83 [.own 0 xs.length] [some ⟨3, List.map R3 xs⟩] (.tuple []) [some ⟨3, List.map R3 r⟩] :=
  ZkZ (g := R3) (fun _ => rfl) (by kernel_rfl) tZ_3 (fun _ _ _ _ _ h1 h2 h3 => Any.slices_Sort_int Tryz.lays189 _ _ _ _ _ h1 h2 h3) (fun p c w => Any.slices_Sort_int_none Tryz.lays189 p c w) h
theorem Zh2 {l : List api_Memory} {r : (List (Vector Int 64)) × Int} (h : Zcz l = some r) :
 CSpec Tryz.prog gl0 29 [.sl 26 (List.map R26 l)] (.tuple [.sl 42 (List.map R42 r.1), .int .i64 r.2]) := by
 unfold Zcz at h
 replace h := Qm h
 refine So Tryz.func29 Y fun w0 A=>Tr<|Ra Y<|Ra Y<|Za<|K1 0 Y<|Tr<|Rm Y<|bE h fun y h_y h=>Rq Y (Zp (Zhw h_y)<|.cons (ov Y) (.b Y) .nil)<|Rm Y<|Rq Y (Zn (ov Y) Y)<|Rq Y (Zn (ov Y) Y)<|Ra Y<|Ra Y<|Za<|Zh<|K2 4 5 Y<|Tr<|Rm Y<|R2 Xa Y<|Za<|K3 4 5 23 Y<|If h Y (fun h=>?_) fun h=>?_
 ·
  refine K1 5 Y<|Tr<|Rm Y<|Ra Y<|Ra Y<|Za<|?_
  obtain rfl := rt h
  exact Zo (ZS Y (.two (.tmp Y<|View.nils 42)<|rb Y))
 ·
  refine Zi<|K1 4 Y<|Tr<|Rx Y (ZkF 0 Y Zjd)<|Ra Y<|Za<|K2 4 6 Y<|Tr<|Ra Y<|Za<|I2 (fun best numbers=>⟨[(6, .mref 0 1), (7, .own 1 numbers.length)], [some ⟨127, [[.mcon (List.map (ZaI FK3 ZfA) best)]]⟩, some ⟨3, List.map R3 numbers⟩]⟩) h (fun h=>?_) fun best numbers h=>?_
  ·
   refine Tr<|Rm Y<|Rl tZ_65 ZlY Y<|Rm Y<|Za<|Zg<|?_
   obtain ⟨r1, hl1, ho1⟩ := QU h
   refine L3 (fun best2 numbers2 i=>⟨[(6, .mref 0 1), (7, .own 1 numbers2.length), (26, .sl 65 (List.map R65 y.1)), (27, .int .i64 (y.1.length : Int)), (28, .int .i64 i)], [some ⟨127, [[.mcon (List.map (ZaI FK3 ZfA) best2)]]⟩, some ⟨3, List.map R3 numbers2⟩]⟩) hl1 (ES [some 0, none] (hhp := .cons Y (Zgk (fk := FK3) (fv := ZfA) (m := ([] : List (Int × api_Kept))) tZ_127 (fun _=>.dat Y) fun _=>.ren<|ZaG<|rld Zgb)<|.row 3 .nil)) fun n1 best2 numbers2 i h=>?_
   unfold Zbm at h
   refine Tr<|R2 ZU Y<|Za<|Zh<|If h Y (fun h=>?_) fun h=>?_
   ·
    refine Zi<|Zh<|Zg<|K5 6 7 26 27 28 Y<|Tr<|bE h fun x h_x h=>Rq Y (Z4 (ov Y) (ov Y) ZlY h_x)<|Rq Y (Qb (ov Y) ZlS (Q4<|Zz ZdA) ZdA)<|Rx Y (Z9 (row := (.int .i64 0) :: (.int .i64 0) :: (.int .i64 0) :: (.int .i64 0) :: ((List.map C40 (Vector.replicate 64 0).toList) ++ ([]))) 2 Y ZmO (by kernel_rfl)<|by exact Eq.symm (Eq.trans (b := 68) ZdA tZ_65.symm))<|Rx Y (Zj (ov Y) (ov Y) (Zv ZlS ZdA) Y Y Y (Za4 (Zz ZdA) ZdA) (Zb ZmJ)<|JE<|Eq.trans ZdA<|Eq.symm ZdA)<|Za<|Zh<|K6 6 7 9 26 27 28 Y<|Tr<|Rq Y (Zf (ov Y) Y Y ZlK)<|Rq Y (Qo (ov Y) Y Y Y Ju (Q4 at9) arL (hns := (nsM fun _ => Y)))<|bE h fun y2 h_y2 h=>Rq Y (Zp (Zfj h_y2)<|.cons (ov Y) (.aggB<|arD fun _ => Y) .nil)<|Rl tZ_149 Zef Y<|R2 ZbA Y<|Za<|K7 6 7 9 26 27 28 36 Y<|If h Y (fun h=>?_) fun h=>?_
    ·
     exact ZJ<|K5 6 7 26 27 28 Y<|Zr<|R2 ZT Y<|Rm Y<|Za<|⟨_, h, ES [some 0, some 1] (hhp := .cons Y (Zgk (fk := FK3) (fv := ZfA) (m := best2) tZ_127 (fun _=>.dat Y) fun _=>.ren<|ZaG<|rld Zgb)<|.cons Y (roM D3) .nil)⟩
    ·
     refine Zi<|K6 6 7 9 26 27 28 Y<|Tr<|Rq Y (Zf (ov Y) Y Y ZlK)<|Rq Y (Qo (ov Y) Y Y Y Ju (Q4 at9) arL (hns := (nsM fun _ => Y)))<|bE h fun y3 h_y3 h=>Rq Y (Zp (ZeH h_y3)<|.cons (ov Y) (.aggB<|arD fun _ => Y) .nil)<|Rm Y<|Rq Y (Zn (ov Y) Y)<|Rq Y (Zn (ov Y) Y)<|Ra Y<|Ra Y<|Za<|K7 6 7 9 10 26 27 28 Y<|Tr<|Rm Y<|Rm Y<|bE h fun o h_o h=>Rq Y (Znx (m := best2) (fk := FK3) (fv := ZfA) (k := y3.1) (z0 := (api_Kept.mk 0 0 0 0 (Vector.replicate 64 0))) (ov Y) (ov Y) Zjd Zm4 Y (fun _=>.b Y) (ZjU Zmx Y) (fun _ _=>Y) h_o)<|Rm Y<|Rq Y (Zn (ov Y) Y)<|Rq Y (Zn (ov Y) Y)<|Rx Y (Z9 (row := (.int .i64 0) :: (.int .i64 0) :: (.int .i64 0) :: (.int .i64 0) :: ((List.map C40 (Vector.replicate 64 0).toList) ++ ([]))) 3 Y ZmO (by kernel_rfl)<|by exact Eq.symm (Eq.trans (b := 68) ZdA tZ_65.symm))<|Rx Y (Zj (ov Y) (ov Y) (Zv ZlS ZdA) Y Y Y (Za4 (Zz ZdA) ZdA) (Zb ZmJ)<|JE<|Eq.trans ZdA<|Eq.symm ZdA)<|Ra Y<|Za<|I1 (fun numbers3=>⟨[(6, .mref 0 1), (7, .own 1 numbers3.length), (9, .ptr 2 1 0 0), (10, .int .i64 y3.1), (12, .ptr 3 1 0 0), (13, .bool o.isSome), (26, .sl 65 (List.map R65 y.1)), (27, .int .i64 (y.1.length : Int)), (28, .int .i64 i)], [some ⟨127, [[.mcon (List.map (ZaI FK3 ZfA) best2)]]⟩, some ⟨3, List.map R3 numbers3⟩, some ⟨65, [(.int .i64 x.Memory) :: (.int .i64 x.Sector) :: (.int .i64 x.Sequence) :: (.int .i64 x.Slot) :: ((List.map C40 x.Frame.toList) ++ ([]))]⟩, some ⟨65, [(.int .i64 ((o.getD (api_Kept.mk 0 0 0 0 (Vector.replicate 64 0))).Memory)) :: (.int .i64 ((o.getD (api_Kept.mk 0 0 0 0 (Vector.replicate 64 0))).Sector)) :: (.int .i64 ((o.getD (api_Kept.mk 0 0 0 0 (Vector.replicate 64 0))).Sequence)) :: (.int .i64 ((o.getD (api_Kept.mk 0 0 0 0 (Vector.replicate 64 0))).Slot)) :: ((List.map C40 ((o.getD (api_Kept.mk 0 0 0 0 (Vector.replicate 64 0))).Frame).toList) ++ ([]))]⟩]⟩) h (fun h=>?_) fun numbers3 h=>?_
     ·
      refine K9 6 7 9 10 12 13 26 27 28 Y<|Tr<|Rm Y<|R1 Ji Y<|Za<|K10 6 7 9 10 12 13 26 27 28 50 Y<|If h Y (fun h=>?_) fun h=>?_
      ·
       exact K9 6 7 9 10 12 13 26 27 28 Y<|Zr<|Rm Y<|Rm Y<|R_q (.sl 3<|List.map R3 ([y3.1] : List Int)) Y (Jh QB (.cons (cvs (ov Y)<|Zk Y) Y (.cons (.b Y) .nil) .nil) Y Y)<|bE h fun l2 h_l2 h=>Rx Y (Q7 (ov Y) (Qs (ov Y) tZ_3) QB Y Y Y (fun _=>Zb Y) Y h_l2)<|Ra Y<|Za<|⟨_, h, ES [some 0, some 1, some 2, some 3] (hhp := .cons Y (Zgk (fk := FK3) (fv := ZfA) (m := best2) tZ_127 (fun _=>.dat Y) fun _=>.ren<|ZaG<|rld Zgb)<|.cons Y (roM D3)<|.cons Y (ro1 (by exact Eq.trans (b := 68) ZdA tZ_65.symm)<|rld Zgb)<|.cons Y (ro1 (by exact Eq.trans (b := 68) ZdA tZ_65.symm)<|rld Zgb) .nil)⟩
      ·
       exact Zi<|⟨_, h, ES [some 0, some 1, some 2, some 3] (hhp := .cons Y (Zgk (fk := FK3) (fv := ZfA) (m := best2) tZ_127 (fun _=>.dat Y) fun _=>.ren<|ZaG<|rld Zgb)<|.cons Y (roM D3)<|.cons Y (ro1 (by exact Eq.trans (b := 68) ZdA tZ_65.symm)<|rld Zgb)<|.cons Y (ro1 (by exact Eq.trans (b := 68) ZdA tZ_65.symm)<|rld Zgb) .nil)⟩
     ·
      refine Tr<|Rm Y<|R1 Ji Y<|Rm Y<|Rq Y (.guarded ((!o.isSome) == false) Y Y Y Y fun h => Zf (ov Y) Y Y Zlp)<|Rq Y (.guarded ((!o.isSome) == false) Y Y Y Y fun h => Zs (ow Y h) Y Y Y tS3<|QP at5)<|Rq Y (.guarded ((!o.isSome) == false) Y Y Y Y fun h => Zf (ov Y) Y Y Zlp)<|Rq Y (.guarded ((!o.isSome) == false) Y Y Y Y fun h => Zs (ow Y h) Y Y Y tS3<|QP at5)<|Rq Y (.guarded ((!o.isSome) == false) Y Y Y Y fun h => ZbA (ow Y h)<|ow Y h)<|Rq Y (ZdY (ov Y) fun hp=>ow Y<|gF hp)<|Za<|K8 6 7 9 10 26 27 28 63 Y<|If h Y (fun h=>?_) fun h=>?_
      ·
       exact K7 6 7 9 10 26 27 28 Y<|Zr<|Rm Y<|Rm Y<|Rq Y (Qo (ov Y) Y Y Y ZlS (Q4<|Zz ZdA) ZdA (hns := ZnR))<|Rx Y (Zk4 (m := best2) (fk := FK3) (fv := ZfA) (k := y3.1) (v := x) (ov Y) (ov Y) (ov Y) Zjd Zm4 Y fun _=>.b Y)<|Za<|K5 6 7 26 27 28 Y<|Zr<|R2 ZT Y<|Rm Y<|Za<|⟨_, h, ES [some 0, some 1] (hhp := .cons Y (Zgk (fk := FK3) (fv := ZfA) (m := (Zji kqI best2 y3.1 x)) tZ_127 (fun _=>.dat Y) fun _=>.ren<|ZaG<|rld Zgb)<|.cons Y (roM D3) .nil)⟩
      ·
       exact Zi<|K5 6 7 26 27 28 Y<|Zr<|R2 ZT Y<|Rm Y<|Za<|⟨_, h, ES [some 0, some 1] (hhp := .cons Y (Zgk (fk := FK3) (fv := ZfA) (m := best2) tZ_127 (fun _=>.dat Y) fun _=>.ren<|ZaG<|rld Zgb)<|.cons Y (roM D3) .nil)⟩
   ·
    refine ZJ<|?_
    replace h := lx h ▸ ho1
    exact ⟨_, h, ES [some 0, some 1] (hhp := .cons Y (Zgk (fk := FK3) (fv := ZfA) (m := best2) tZ_127 (fun _=>.dat Y) fun _=>.ren<|ZaG<|rld Zgb)<|.cons Y (roM D3) .nil)⟩
  ·
   refine Tr<|Rm Y<|bE h fun y4 h_y4 h=>Rx Y (ZG [1] (ZkG h_y4) (.cons (ov Y) (.own _ Y) .nil) (.cons Y (roM D3) .nil) Y (.keep Y Y<|.lent 0 (.inl Y) Y (roM D3) .nil) Y Y<|QW<|rld Y)<|Za<|K2 6 7 Y<|Tr<|Ra Y<|Za<|I1 (fun out=>⟨[(14, .own 0 out.length)], [some ⟨42, List.map R42 out⟩]⟩) h (fun h=>?_) fun out h=>?_
   ·
    refine Tr<|Rm Y<|Rq Y (Zel (ov Y) Y (Zh9 h_y4) QB)<|Rm Y<|Za<|Zg<|?_
    obtain ⟨r2, hl2, ho2⟩ := QU h
    refine L2 (fun out2 i2=>⟨[(6, .mref 0 1), (14, .own 1 out2.length), (70, .own 2 y4.length), (71, .int .i64 (y4.length : Int)), (72, .int .i64 i2)], [some ⟨127, [[.mcon (List.map (ZaI FK3 ZfA) best)]]⟩, some ⟨42, List.map R42 out2⟩, some ⟨3, List.map R3 y4⟩]⟩) hl2 (Ent.sel [some 0, none, some 1] (sr 6 Y (.mref _ Y)<|sr 14 Y (.row Y)<|sr 70 Y (Zb2 (Eq.symm<|Zh9 h_y4) Y)<|sd 71 Y Y<|sd 72 Y Y sn) (.cons Y (Zgk (fk := FK3) (fv := ZfA) (m := best) tZ_127 (fun _=>.dat Y) fun _=>.ren<|ZaG<|rld Zgb)<|.row 42<|.cons Y (roM D3) .nil) Y Y) fun n2 out2 i2 h=>?_
    unfold ZbU at h
    refine Tr<|R2 ZU Y<|Za<|Zh<|If h Y (fun h=>?_) fun h=>?_
    ·
     exact Zi<|Zh<|Zg<|K5 6 14 70 71 72 Y<|Tr<|bE h fun x2 h_x2 h=>Rq Y (Qh (ov Y) (ov Y) QB Y Y h_x2)<|Rq Y (Qt (ov Y) Y Y h_x2 tS3 Y)<|Ra Y<|Za<|K6 6 14 16 70 71 72 Y<|Zr<|Rm Y<|Rm Y<|Rm Y<|bE h fun o2 h_o2 h=>Rq Y (ZnD (m := best) (fk := FK3) (fv := ZfA) (k := x2) (z0 := (api_Kept.mk 0 0 0 0 (Vector.replicate 64 0))) (ov Y) (ov Y) Zjd Zm4 Y (fun _=>.b Y) (ZjU Zmx Y) (fun _ _=>Y) h_o2)<|Rq Y (Zli (ov Y) Zmf at9)<|R_q (.sl 42<|List.map R42 ([o2.Frame] : List (Vector Int 64))) Y (Jh ZlT (.cons (cva<|ov Y) arL (pwD<|arD fun _ => Y) .nil) Y Y)<|bE h fun l3 h_l3 h=>Rx Y (Q7 (ov Y) (Qs (ov Y) tZ_42) ZlT Y Y Y (fun x=>Zb<|E42 x) Y h_l3)<|Ra Y<|Za<|K5 6 14 70 71 72 Y<|Zr<|R2 ZT Y<|Rm Y<|Za<|⟨_, h, ES [some 0, some 1, some 2] (hhp := .cons Y (Zgk (fk := FK3) (fv := ZfA) (m := best) tZ_127 (fun _=>.dat Y) fun _=>.ren<|ZaG<|rld Zgb)<|.cons Y (roM D42)<|.cons Y (roM D3) .nil)⟩
    ·
     refine ZJ<|?_
     replace h := lx h ▸ ho2
     exact ⟨_, h, ES [some 1]⟩
   ·
    refine Tr<|Rm Y<|Ra Y<|Ra Y<|Za<|?_
    obtain rfl := rt h
    exact Zo (ZS Y (.two (.tmp Y<|View.ownM Y Y D42)<|rb Y))
theorem ZiT  {r : Bool} (h : Zdf  = some r) :
 CSpec Tryz.prog gl0 13 [] (.bool r) := by
 unfold Zdf at h
 replace h := Qm h
 refine So Tryz.func13 Y fun w0 A=>Tr<|Ra Y<|Za<|K0<|Tr<|bE h fun l h_l h=>Rx Y (Zat [none] (r := 0) (f := R3) (z0 := 0) Y (ov Y) (ov Y) QB Y tZ3 Y Y h_l)<|bE h fun y h_y h=>Rq Y (Zco (ZjC h_y) (.tuple<|by simp only [List.mem_cons, List.not_mem_nil, or_false, forall_eq_or_imp, forall_eq]; exact ⟨(Zjm (fun _ => .int)), .int⟩)<|.cons (ov Y) (Dat.view<|.b Y)<|.cons (ov Y) (View.ownM Y Y D3) .nil)<|Rm Y<|Rq Y (Zn (ov Y) Y)<|Rq Y (Zn (ov Y) Y)<|Rx Y (Z9 (row := (List.map C40 (Vector.replicate 64 0).toList)) 1 Y ZgD Y tZ_42)<|Rx Y (Zj (ov Y) (ov Y) (Zv Ju arL) Y Y Y (Za4 (Zz arL) arL) (Zb<|arC fun _ => Y)<|JE<|Eq.trans arL<|Eq.symm arL)<|Ra Y<|Za<|K1 1 Y<|Tr<|bE h fun y2 h_y2 h=>Rq Y (Zp (Zgs h_y2)<|.cons (ov Y) (.b Y)<|.cons (ov Y) (.b Y)<|.cons (ov Y) (.b Y) .nil)<|Rm Y<|Rq Y (Zn (ov Y) Y)<|Rq Y (Zn (ov Y) Y)<|Rx Y (Z9 (row := [_, _, _, _, _]) 2 Y ZaP Y tZ_26)<|Rx Y (Zj (ov Y) (ov Y) (Zv QA Y) Y Y Y (Nat.le_of_ble_eq_true Y) (Zb Y) Y)<|Ra Y<|Za<|Zh<|K3 1 3 4 Y<|Tr<|Rm Y<|R2 Xa Y<|Za<|K3 1 3 20 Y<|If h Y (fun h=>?_) fun h=>?_
 ·
  refine K0<|Tr<|Ra Y<|Za<|?_
  obtain rfl := rt h
  exact Zo (ZS Y (.one<|rb Y))
 ·
  refine Zi<|K2 1 3 Y<|Tr<|Rq Y (Qo (ov Y) Y Y Y QA Y Y)<|R_q (.sl 26<|List.map R26 ([y2.1] : List api_Memory)) Y (Jh Zdq (.cons (cva<|ov Y) Y (pwD Y) .nil) Y Y)<|bE h fun y3 h_y3 h=>?_
  rcases y3 with y3 | y3
  ·
   replace h := ell h
   refine Rx Y (ZG [] (ZfE h_y3) (.cons (ov Y) (.dat Y)<|.cons (ov Y) (.dat Y) .nil) .nil Y (.keep Y Y<|.keep Y Y<|.keep Y Y .nil) Y Y<|QW<|rlc (.dat Y)<|rlc (.dat Y) rln)<|Rm Y<|Rq Y (Zn (ov Y) Y)<|Rq Y (Zn (ov Y) Y)<|Ra Y<|Ra Y<|Za<|Zh<|K3 1 4 5 Y<|Tr<|Rm Y<|R2 Xa Y<|Za<|K3 1 5 28 Y<|If h Y (fun h=>?_) fun h=>?_
   ·
    refine K0<|Tr<|Ra Y<|Za<|?_
    obtain rfl := rt h
    exact Zo (ZS Y (.one<|rb Y))
   ·
    exact Zi<|(ZlJ h).elim
  ·
   replace h := elr h
   refine Rx Y (ZG [] (ZfB h_y3) (.cons (ov Y) (.dat Y)<|.cons (ov Y) (.dat Y) .nil) .nil Y (.keep Y Y<|.keep Y Y<|.keep Y Y<|.lent 0 (.inr ⟨Nat.le_of_ble_eq_true Y, Y⟩) Y (ro1 (by exact tZ_102.symm)<|rlc (.own _<|.inr ⟨Nat.le_of_ble_eq_true Y, Y⟩)<|rlc (.own _<|.inr ⟨Nat.le_of_ble_eq_true Y, Y⟩)<|rlc (.dat Y)<|rlc (.dat Y)<|rlc (.dat Y)<|rlc (.dat Y)<|rlc (.dat Y) rln)<|.lent 1 (.inr ⟨Nat.le_of_ble_eq_true Y, Y⟩) Y (roO XZ)<|.lent 2 (.inr ⟨Nat.le_of_ble_eq_true Y, Y⟩) Y (roM D105) .nil) Y Y<|QW<|rlc (.ptr _ _ _<|.inr ⟨Nat.le_of_ble_eq_true Y, Y⟩)<|rlc (.dat Y) rln)<|Rm Y<|Rq Y (Zn (ov Y) Y)<|Rq Y (Zn (ov Y) Y)<|Ra Y<|Ra Y<|Za<|Zh<|K3 1 4 5 Y<|QG [some ⟨3, List.map R3 l⟩, some ⟨42, [(List.map C40 y.1.toList)]⟩, some ⟨26, [[.int .i64 y2.1.Slots, .int .i64 y2.1.Limit, .sl 49 (List.map R49 y2.1.Sectors), .sl 3 (List.map R3 y2.1.Wear), .sl 4 (List.map R4 y2.1.Bad)]]⟩, some ⟨102, [[.own 4 y3.1.bank.memories.length, .own 5 y3.1.bank.spots.length, .int .i64 y3.1.copies, .bool y3.1.frozen, .bool y3.1.stopped, .int .i64 y3.1.last, .bool y3.1.some_]]⟩, some ⟨26, List.map O26 y3.1.bank.memories⟩, some ⟨105, List.map R105 y3.1.bank.spots⟩] Y<|Tr<|Rm Y<|R2 Xa Y<|Za<|K3 1 5 28 Y<|If h Y (fun h=>?_) fun h=>?_
   ·
    refine K0<|Tr<|Ra Y<|Za<|?_
    obtain rfl := rt h
    exact Zo (ZS Y (.one<|rb Y))
   ·
    refine Zi<|K2 1 5 Y<|Tr<|Rm Y<|Rq Y (Qo (ov Y) Y Y Y Ju (Q4<|Zz arL) arL (hns := (nsM fun _ => Y)))<|bE h fun y4 h_y4 h=>Rx Y (ZG [3, 4, 5] (Zdz h_y4) (.cons (ov Y) (.ptr _ _ _ Y)<|.cons (ov Y) (ZaG<|rld<|arD fun _ => Y)<|.cons (ov Y) (.dat Y) .nil) (.cons Y (ro1 (by exact tZ_102.symm)<|rlc (.own _ Y)<|rlc (.own _ Y)<|rlc (.dat Y)<|rlc (.dat Y)<|rlc (.dat Y)<|rlc (.dat Y)<|rlc (.dat Y) rln)<|.cons Y (roO XZ)<|.cons Y (roM D105) .nil) Y (.keep Y Y<|.keep Y Y<|.keep Y Y<|.lent 0 (.inl Y) Y (ro1 (by exact tZ_102.symm)<|rlc (.own _<|.inr ⟨Nat.le_of_ble_eq_true Y, Y⟩)<|rlc (.own _<|.inr ⟨Nat.le_of_ble_eq_true Y, Y⟩)<|rlc (.dat Y)<|rlc (.dat Y)<|rlc (.dat Y)<|rlc (.dat Y)<|rlc (.dat Y) rln)<|.none<|.none<|.lent 3 (.inr ⟨Nat.le_of_ble_eq_true Y, Y⟩) Y (roO XZ)<|.lent 4 (.inr ⟨Nat.le_of_ble_eq_true Y, Y⟩) Y (roM D105) .nil) Y Y<|QW<|rld Y)<|Rm Y<|Rq Y (Zn (ov Y) Y)<|Rq Y (Zn (ov Y) Y)<|Rq Y (Zn (ov Y) Y)<|Ra Y<|Ra Y<|Ra Y<|Za<|K5 1 4 5 6 7 Y<|QG [some ⟨3, List.map R3 l⟩, some ⟨42, [(List.map C40 y.1.toList)]⟩, some ⟨26, [[.int .i64 y2.1.Slots, .int .i64 y2.1.Limit, .sl 49 (List.map R49 y2.1.Sectors), .sl 3 (List.map R3 y2.1.Wear), .sl 4 (List.map R4 y2.1.Bad)]]⟩, some ⟨102, [[.own 6 y4.2.2.2.bank.memories.length, .own 7 y4.2.2.2.bank.spots.length, .int .i64 y4.2.2.2.copies, .bool y4.2.2.2.frozen, .bool y4.2.2.2.stopped, .int .i64 y4.2.2.2.last, .bool y4.2.2.2.some_]]⟩, none, none, some ⟨26, List.map O26 y4.2.2.2.bank.memories⟩, some ⟨105, List.map R105 y4.2.2.2.bank.spots⟩] Y<|Tr<|Rm Y<|bE h fun y5 h_y5 h=>Rx Y (ZG [3, 6, 7] (Zc7 h_y5) (.cons (ov Y) (.ptr _ _ _ Y) .nil) (.cons Y (ro1 (by exact tZ_102.symm)<|rlc (.own _ Y)<|rlc (.own _ Y)<|rlc (.dat Y)<|rlc (.dat Y)<|rlc (.dat Y)<|rlc (.dat Y)<|rlc (.dat Y) rln)<|.cons Y (roO XZ)<|.cons Y (roM D105) .nil) Y (.keep Y Y<|.keep Y Y<|.keep Y Y<|.lent 0 (.inl Y) Y (ro1 (by exact tZ_102.symm)<|rlc (.dat Y)<|rlc (.own _<|.inr ⟨Nat.le_of_ble_eq_true Y, Y⟩)<|rlc (.dat Y)<|rlc (.dat Y)<|rlc (.dat Y)<|rlc (.dat Y)<|rlc (.dat Y) rln)<|.none<|.none<|.none<|.none<|.lent 3 (.inr ⟨Nat.le_of_ble_eq_true Y, Y⟩) Y (roM D105) .nil) Y Y<|.dat Y)<|bE h fun y6 h_y6 h=>Rq Y (Zp (Zh2 h_y6)<|.cons (ov Y) (.b Y) .nil)<|Rm Y<|Rq Y (Zn (ov Y) Y)<|Rq Y (Zn (ov Y) Y)<|Ra Y<|Ra Y<|Za<|Zh<|K6 1 4 6 7 8 9 Y<|Qf (cw := md0) (by kernel_rfl)<|D1 0 Zc Y<|D2 1 Zbd Y<|D1 2 Zc Y<|Dq 3 Y (.guarded ((decide (y4.1 = 1)) == true) Y Y Y Y fun h => Zc<|ov Y)<|Dq 4 Y (Zaw (ov Y) fun hp=>ow Y<|gT hp)<|D1 5 Zc Y<|Dq 6 Y (.guarded (((decide (y4.1 = 1)) && y4.2.1) == true) Y Y Y Y fun h => Zc<|ov Y)<|Dq 7 Y (.guarded (((decide (y4.1 = 1)) && y4.2.1) == true) Y Y Y Y fun h => Zbd (ow Y h)<|ov Y)<|Dq 8 Y (Zaw (ov Y) fun hp=>ow Y<|gT hp)<|D1 9 Zc Y<|Dq 10 Y (.guarded ((((decide (y4.1 = 1)) && y4.2.1) && (decide (y4.2.2.1 = 0))) == true) Y Y Y Y fun h => Zc<|ov Y)<|Dq 11 Y (.guarded ((((decide (y4.1 = 1)) && y4.2.1) && (decide (y4.2.2.1 = 0))) == true) Y Y Y Y fun h => Zbd (ow Y h)<|ov Y)<|Dq 12 Y (Zaw (ov Y) fun hp=>ow Y<|gT hp)<|D1 13 Zc Y<|Dq 14 Y (.guarded (((((decide (y4.1 = 1)) && y4.2.1) && (decide (y4.2.2.1 = 0))) && (decide (y6.2 = 0))) == true) Y Y Y Y fun h => Zc<|ov Y)<|Dq 15 Y (.guarded (((((decide (y4.1 = 1)) && y4.2.1) && (decide (y4.2.2.1 = 0))) && (decide (y6.2 = 0))) == true) Y Y Y Y fun h => Zii (Qs (ow Y h) tZ_42) ZlT<|Zek _ _)<|Dq 16 Y (.guarded (((((decide (y4.1 = 1)) && y4.2.1) && (decide (y4.2.2.1 = 0))) && (decide (y6.2 = 0))) == true) Y Y Y Y fun h => Zbd (ow Y h)<|ov Y)<|Dq 17 Y (Zaw (ov Y) fun hp=>ow Y<|gT hp)<|D1 18 Zc Y<|Dq 19 Y (.guarded ((((((decide (y4.1 = 1)) && y4.2.1) && (decide (y4.2.2.1 = 0))) && (decide (y6.2 = 0))) && (decide ((y6.1.length : Int) = 1))) == true) Y Y Y Y fun h => Zc<|ov Y)<|bE h fun x h_x h=>Dq 20 Y (.guarded ((((((decide (y4.1 = 1)) && y4.2.1) && (decide (y4.2.2.1 = 0))) && (decide (y6.2 = 0))) && (decide ((y6.1.length : Int) = 1))) == true) Y Y Y Y fun h => Z4 (ow Y h) (ov Y) ZlT<|gdT h_x h)<|Dq 21 Y (.guarded ((((((decide (y4.1 = 1)) && y4.2.1) && (decide (y4.2.2.1 = 0))) && (decide (y6.2 = 0))) && (decide ((y6.1.length : Int) = 1))) == true) Y Y Y Y fun h => Qb (ow Y h) Ju (Q4<|Zz arL) arL)<|Dq 22 Y (.guarded ((((((decide (y4.1 = 1)) && y4.2.1) && (decide (y4.2.2.1 = 0))) && (decide (y6.2 = 0))) && (decide ((y6.1.length : Int) = 1))) == true) Y Y Y Y fun h => Qo (ov Y) Y Y Y Ju (Q4<|Zz arL) arL (hns := (nsM fun _ => Y)))<|Dq 23 Y (.guarded ((((((decide (y4.1 = 1)) && y4.2.1) && (decide (y4.2.2.1 = 0))) && (decide (y6.2 = 0))) && (decide ((y6.1.length : Int) = 1))) == true) Y Y Y Y fun h => Zm8 Znn (ow Y h) (ow Y h) (.aggB<|arD fun _ => Y) (.aggB<|arD fun _ => Y) (fkV fun _ => Y) (fkV fun _ => Y)<|eqV fun _ _ => Y)<|Dq 24 Y (Zaw (ov Y) fun hp=>ow Y<|gT hp)<|D1 25 Ql Y<|Dd<|?_
    obtain rfl := rt h
    exact Zo (ZS Y (.one<|rb Y))
theorem ZcT {m : api_Memory} {sector : Int} {r : Bool} (h : Xf m sector = some r) :
 CSpec Tryz.prog gl0 8 [.agg [.int .i64 m.Slots, .int .i64 m.Limit, .sl 49 (List.map R49 m.Sectors), .sl 3 (List.map R3 m.Wear), .sl 4 (List.map R4 m.Bad)], .int .i64 sector] (.bool r) := by
 unfold Xf at h
 replace h := Qm h
 refine So Tryz.func8 Y fun w0 A=>Tr<|Rq Y (JG (cva<|ov Y) Y tZ_26 Y)<|Ra Y<|Za<|K2 1 2 Y<|Tr<|Rq Y (Qb (ov Y) QA Y Y)<|bE h fun y h_y h=>Rq Y (Zp (ZhG h_y)<|.cons (ov Y) (.aggB Y) .nil)<|Rm Y<|Rq Y (Zn (ov Y) Y)<|Rq Y (Zn (ov Y) Y)<|Ra Y<|Ra Y<|Za<|K4 1 2 5 6 Y<|Tr<|Rq Y (Qb (ov Y) QA Y Y)<|bE h fun y2 h_y2 h=>Rq Y (Zp (ZhC h_y2)<|.cons (ov Y) (.aggB Y) .nil)<|Rm Y<|Rq Y (Zn (ov Y) Y)<|Rq Y (Zn (ov Y) Y)<|Ra Y<|Ra Y<|Za<|Zh<|Zh<|K6 1 2 5 6 7 8 Y<|Qf (cw := md0) (by kernel_rfl)<|Dq 0 Y (Qb (ov Y) QA Y Y)<|bE h fun y3 h_y3 h=>Dq 1 Y (Zp (Jj h_y3)<|.cons (ov Y) (.aggB Y) .nil)<|Dq 2 Y (Qb (ov Y) QA Y Y)<|bE h fun y4 h_y4 h=>Dq 3 Y (Zp (ZaA h_y4)<|.cons (ov Y) (.aggB Y) .nil)<|D2 4 Xa Y<|D1 5 Zc Y<|Dq 6 Y (.guarded ((!decide (y3 = y4)) == false) Y Y Y Y fun h => Zc<|ov Y)<|Dq 7 Y (.guarded ((!decide (y3 = y4)) == false) Y Y Y Y fun h => Zc<|ov Y)<|Dq 8 Y (.guarded ((!decide (y3 = y4)) == false) Y Y Y Y fun h => Xa (ow Y h)<|ow Y h)<|Dq 9 Y (ZdY (ov Y) fun hp=>ow Y<|gF hp)<|D1 10 Zc Y<|Dq 11 Y (.guarded (((!decide (y3 = y4)) || (!decide (y.2 = y2.2))) == false) Y Y Y Y fun h => Zc<|ov Y)<|Dq 12 Y (.guarded (((!decide (y3 = y4)) || (!decide (y.2 = y2.2))) == false) Y Y Y Y fun h => Zc<|ov Y)<|bE h fun y5 h_y5 h=>Dq 13 Y (.guarded (((!decide (y3 = y4)) || (!decide (y.2 = y2.2))) == false) Y Y Y Y fun h => Zp (Zbc<|gdT h_y5 h)<|.cons (ow Y h) (.b Y)<|.cons (ow Y h) (.b Y) .nil)<|Dq 14 Y (.guarded (((!decide (y3 = y4)) || (!decide (y.2 = y2.2))) == false) Y Y Y Y fun h => Ji<|ow Y h)<|Dq 15 Y (ZdY (ov Y) fun hp=>ow Y<|gF hp)<|Dd<|K3 1 2 36 Y<|If h Y (fun h=>?_) fun h=>?_
 ·
  refine K0<|Tr<|Ra Y<|Za<|?_
  obtain rfl := rt h
  exact Zo (ZS Y (.one<|rb Y))
 ·
  refine Zi<|K2 1 2 Y<|Tr<|Rq Y (Qb (ov Y) QA Y Y)<|Rm Y<|bE h fun y6 h_y6 h=>Rx Y (ZG [] (Zhe h_y6) (.cons (ov Y) (ZaG<|rld Y)<|.cons (ov Y) (.dat Y) .nil) .nil Y (.lent 0 (.inr ⟨Nat.le_of_ble_eq_true Y, Y⟩) Y (roO QN)<|.lent 1 (.inr ⟨Nat.le_of_ble_eq_true Y, Y⟩) Y (roM D3)<|.lent 2 (.inr ⟨Nat.le_of_ble_eq_true Y, Y⟩) Y (roM D4) .nil) Y Y<|QW<|rlc (ZaG<|rlc (.dat Y)<|rlc (.dat Y)<|rlc (.own _<|.inr ⟨Nat.le_of_ble_eq_true Y, Y⟩)<|rlc (.own _<|.inr ⟨Nat.le_of_ble_eq_true Y, Y⟩)<|rlc (.own _<|.inr ⟨Nat.le_of_ble_eq_true Y, Y⟩) rln)<|rlc (.dat Y) rln)<|Rm Y<|Rq Y (Zn (ov Y) Y)<|Rq Y (Zn (ov Y) Y)<|Rx Y (Z9 (row := [_, _, _, _, _]) 3 Y ZaP Y tZ_26)<|Rx Y (Zj (ov Y) (ov Y) (Zv QA Y) Y Y Y (Nat.le_of_ble_eq_true Y) (Zb Y) Y)<|Ra Y<|Za<|K4 1 2 6 9 Y<|QG [some ⟨49, List.map O49 y6.1.Sectors⟩, some ⟨3, List.map R3 y6.1.Wear⟩, some ⟨4, List.map R4 y6.1.Bad⟩, some ⟨26, [[.int .i64 y6.1.Slots, .int .i64 y6.1.Limit, .own 0 y6.1.Sectors.length, .own 1 y6.1.Wear.length, .own 2 y6.1.Bad.length]]⟩] Y<|Tr<|Rq Y (Qb (ov Y) QA Y Y)<|Rm Y<|bE h fun y7 h_y7 h=>Rx Y (ZG [] (ZgW h_y7) (.cons (ov Y) (ZaG<|rld Y)<|.cons (ov Y) (.dat Y) .nil) .nil Y (.keep Y Y<|.keep Y Y<|.keep Y Y<|.keep Y Y<|.lent 0 (.inr ⟨Nat.le_of_ble_eq_true Y, Y⟩) Y (roO QN)<|.lent 1 (.inr ⟨Nat.le_of_ble_eq_true Y, Y⟩) Y (roM D3)<|.lent 2 (.inr ⟨Nat.le_of_ble_eq_true Y, Y⟩) Y (roM D4) .nil) Y Y<|QW<|rlc (ZaG<|rlc (.dat Y)<|rlc (.dat Y)<|rlc (.own _<|.inr ⟨Nat.le_of_ble_eq_true Y, Y⟩)<|rlc (.own _<|.inr ⟨Nat.le_of_ble_eq_true Y, Y⟩)<|rlc (.own _<|.inr ⟨Nat.le_of_ble_eq_true Y, Y⟩) rln)<|rlc (.dat Y) rln)<|Rm Y<|Rq Y (Zn (ov Y) Y)<|Rq Y (Zn (ov Y) Y)<|Rx Y (Z9 (row := [_, _, _, _, _]) 7 Y ZaP Y tZ_26)<|Rx Y (Zj (ov Y) (ov Y) (Zv QA Y) Y Y Y (Nat.le_of_ble_eq_true Y) (Zb Y) Y)<|Ra Y<|Za<|K4 6 8 9 10 Y<|QG [some ⟨49, List.map O49 y6.1.Sectors⟩, some ⟨3, List.map R3 y6.1.Wear⟩, some ⟨4, List.map R4 y6.1.Bad⟩, some ⟨26, [[.int .i64 y6.1.Slots, .int .i64 y6.1.Limit, .own 0 y6.1.Sectors.length, .own 1 y6.1.Wear.length, .own 2 y6.1.Bad.length]]⟩, some ⟨49, List.map O49 y7.1.Sectors⟩, some ⟨3, List.map R3 y7.1.Wear⟩, some ⟨4, List.map R4 y7.1.Bad⟩, some ⟨26, [[.int .i64 y7.1.Slots, .int .i64 y7.1.Limit, .own 4 y7.1.Sectors.length, .own 5 y7.1.Wear.length, .own 6 y7.1.Bad.length]]⟩] Y<|Tr<|Rm Y<|Rm Y<|R2 Zbd Y<|Rm Y<|Rq Y (.guarded ((decide (y6.2 = y7.2)) == true) Y Y Y Y fun h => Qo (ov Y) Y Y Y QA Y Y)<|Rq Y (.guarded ((decide (y6.2 = y7.2)) == true) Y Y Y Y fun h => Qo (ov Y) Y Y Y QA Y Y)<|bE h fun y8 h_y8 h=>Rq Y (.guarded ((decide (y6.2 = y7.2)) == true) Y Y Y Y fun h => Zco (Zf9<|gdT h_y8 h) .bool<|.cons (ow Y h) (View.aggL<|.cons (Dat.view<|.b Y)<|.cons (Dat.view<|.b Y)<|.cons (View.ownO Y Y QN (fun x=>(D49 x).1) ZlF)<|.cons (View.ownM Y Y D3)<|.cons (View.ownM Y Y D4) .nil)<|.cons (ow Y h) (View.aggL<|.cons (Dat.view<|.b Y)<|.cons (Dat.view<|.b Y)<|.cons (View.ownO Y Y QN (fun x=>(D49 x).1) ZlF)<|.cons (View.ownM Y Y D3)<|.cons (View.ownM Y Y D4) .nil) .nil)<|Rq Y (Zaw (ov Y) fun hp=>ow Y<|gT hp)<|Rm Y<|bE h fun y9 h_y9 h=>Rq Y (.guarded (((decide (y6.2 = y7.2)) && y8) == true) Y Y Y Y fun h => Zp (ZiT<|gdT h_y9 h) .nil)<|Rq Y (Zaw (ov Y) fun hp=>ow Y<|gT hp)<|Ra Y<|Za<|?_
  obtain rfl := rt h
  exact Zo (ZS Y (.one<|rb Y))
end Go.Proofs.YtnlmjeleocelgaaGreatDoor
