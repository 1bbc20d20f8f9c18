/- A text of the proof: a verified executor of the program form, or the contracts of the functions that the law reaches. -/
import Derived.Test.YtnlmjeleocelgaaDoorOkWa
set_option linter.all false
namespace Go.Proofs.YtnlmjeleocelgaaDoor
open Go Go.Vx
set_option maxRecDepth 10000
set_option maxHeartbeats 1000000
set_option linter.unusedVariables false
theorem Zj7 {p : Vector Int 96} {r : (Vector Int 64)} (h : Zbz p = some r) :
 CSpec Tryd.prog gl0 52 [.rp (List.map C5 p.toList) 0] (.agg (List.map C42 r.toList)) := by
 unfold Zbz at h
 replace h := QO h
 refine So Tryd.func52 Y fun w0 A=>Tr<|Rx Y (Qd (row := (List.map C42 (Vector.replicate 64 0).toList)) 0 Y ZhN Y tZ_44)<|Za<|Tr<|Rx Y (Qd (row := (List.map C42 (Vector.replicate 64 0).toList)) 1 Y ZhN Y tZ_44)<|Za<|I1 (fun f=>⟨[(2, .ptr 0 1 0 0), (3, .ptr 1 1 0 0)], [some ⟨44, [(List.map C42 (Vector.replicate 64 0).toList)]⟩, some ⟨44, [(List.map C42 f.toList)]⟩]⟩) h (fun h=>?_) fun f h=>?_
 ·
  refine Tr<|Rm Y<|Za<|Zf<|?_
  obtain ⟨r1, hl1, ho1⟩ := Xk h
  refine L2 (fun f2 i=>⟨[(0, .rp (List.map C5 p.toList) 0), (2, .ptr 0 1 0 0), (3, .ptr 1 1 0 0), (5, .int .i64 i)], [some ⟨44, [(List.map C42 (Vector.replicate 64 0).toList)]⟩, some ⟨44, [(List.map C42 f2.toList)]⟩]⟩) hl1 (ES [some 0, some 1]) fun n1 f2 i h=>?_
  unfold JR at h
  refine Tr<|R2 ZU Y<|Za<|Zg<|If h Y (fun h=>?_) fun h=>?_
  ·
   exact Zh<|Zg<|Zf<|K4 0 2 3 5 Y<|Tr<|Rm Y<|Ra Y<|Za<|K5 0 2 3 4 5 Y<|Zr<|Rm Y<|Rm Y<|Rm Y<|bE h fun y h_y h=>Rq Y (Zt (ZiP h_y)<|.cons (ov Y) (.b Y)<|.cons (ov Y) (.b Y) .nil)<|bE h fun x h_x h=>Rq Y (ZaC (ov Y) (ov Y) Zbh Y Y h_x)<|Rx Y (Zk (ov Y) (ov Y) (Ze Zb6) Y Y Y (arB h_x) (Zb Y)<|arS h_x)<|Za<|K4 0 2 3 5 Y<|Zr<|R2 ZW Y<|Rm Y<|Za<|⟨_, h, ES [some 0, some 1]⟩
  ·
   refine ZM<|?_
   replace h := lx h ▸ ho1
   exact ⟨_, h, ES [some 0, some 1]⟩
 ·
  refine Tr<|Rq Y (QC (ov Y) Y Y Y JQ (Qo<|Zu arL) arL (hns := (nsM fun _ => Y)))<|Rx Y (Zk (ov Y) (ov Y) (ZB JQ arL) Y Y Y (Zan (Zu arL) arL) (Zb<|arC fun _ => Y)<|Jc<|Eq.trans arL<|Eq.symm arL)<|Za<|?_
  obtain rfl := rt h
  exact Zp (Z5 Y (.one<|.agg Y Y Y Y JQ (Qo<|Zu arL) arL (pwB<|arD fun _ => Y) (hns := (nsM fun _ => Y))))
theorem ZgU {b : List Int} {r : (Vector Int 64) × Int} (h : Xr b = some r) :
 CSpec Tryd.prog gl0 30 [.sl 5 (List.map R5 b)] (.tuple [.agg (List.map C42 r.1.toList), .int .i64 r.2]) := by
 unfold Xr at h
 replace h := QO h
 refine So Tryd.func30 Y fun w0 A=>Tr<|Rx Y (Qd (row := (List.map C42 (Vector.replicate 64 0).toList)) 0 Y ZhN Y tZ_44)<|Ra Y<|Za<|Zg<|K2 0 2 Y<|Tr<|Rm Y<|Rl tZ_5 Xf Y<|R2 ZU Y<|Za<|K3 0 2 7 Y<|If h Y (fun h=>?_) fun h=>?_
 ·
  refine K1 2 Y<|Tr<|R_q (.agg<|List.map C42 (#v[0, 0, 0, 0, 0, 0, 0, 0, 0, 0, 0, 0, 0, 0, 0, 0, 0, 0, 0, 0, 0, 0, 0, 0, 0, 0, 0, 0, 0, 0, 0, 0, 0, 0, 0, 0, 0, 0, 0, 0, 0, 0, 0, 0, 0, 0, 0, 0, 0, 0, 0, 0, 0, 0, 0, 0, 0, 0, 0, 0, 0, 0, 0, 0] : Vector Int 64).toList) Y (ZeP (ys := [_, _, _, _, _, _, _, _, _, _, _, _, _, _, _, _, _, _, _, _, _, _, _, _, _, _, _, _, _, _, _, _, _, _, _, _, _, _, _, _, _, _, _, _, _, _, _, _, _, _, _, _, _, _, _, _, _, _, _, _, _, _, _, _]) Zbh ZhN .nil Y)<|Rx Y (Zk (ov Y) (ov Y) (ZB JQ arL) Y Y Y (Zan (Zu arL) arL) (Zb<|arC fun _ => Y)<|Jc<|Eq.trans arL<|Eq.symm arL)<|Ra Y<|Za<|?_
  obtain rfl := rt h
  exact Zp (Z5 Y (.two (.agg Y Y Y Y JQ (Qo<|Zu arL) arL (pwB<|arD fun _ => Y) (hns := (nsM fun _ => Y)))<|rb Y))
 ·
  refine Zh<|K2 0 2 Y<|Tr<|Rm Y<|bE h fun l h_l h=>Rq Y (ZjQ (ov Y) Xf on (oi<|ov Y) h_l)<|bE h fun v h_v h=>Rq Y (Zl0 (f := C5) (ov Y) Zep tZ_5 Y h_v)<|Rq Y (QP (ov Y) ZpI (Qo<|Zu arL) arL)<|Rx Y (Qd (row := (List.map C5 (Vector.replicate 96 0).toList)) 1 Y ZpK Y tZ_109)<|Rx Y (Zk (ov Y) (ov Y) (ZB ZpI arL) Y Y Y (Zan (Zu arL) arL) (Zb<|arC fun _ => Y)<|Jc<|Eq.trans arL<|Eq.symm arL)<|Za<|K2 2 4 Y<|Tr<|bE h fun y h_y h=>Rq Y (Zc2 (Zj7 h_y) (ZlL fun _=>.int)<|.cons (ov Y) (View.ptr Y Y Y (pwB<|arD fun _ => Y) (hns := (nsM fun _ => Y))) .nil)<|Rx Y (Zk (ov Y) (ov Y) (ZB JQ arL) Y Y Y (Zan (Zu arL) arL) (Zb<|arC fun _ => Y)<|Jc<|Eq.trans arL<|Eq.symm arL)<|Ra Y<|Za<|?_
  obtain rfl := rt h
  exact Zp (Z5 Y (.two (.agg Y Y Y Y JQ (Qo<|Zu arL) arL (pwB<|arD fun _ => Y) (hns := (nsM fun _ => Y)))<|rb Y))
theorem Zdp {l : List api_Memory} {r : (List api_Kept) × Int} (h : Jf l = some r) :
 CSpec Tryd.prog gl0 12 [.sl 60 (List.map R60 l)] (.tuple [.sl 51 (List.map R51 r.1), .int .i64 r.2]) := by
 unfold Jf at h
 replace h := QO h
 refine So Tryd.func12 Y fun w0 A=>Tr<|Ra Y<|Ra Y<|Za<|Zg<|K1 0 Y<|Tr<|Rm Y<|bE h fun y h_y h=>Rq Y (Zt (ZeJ h_y)<|.cons (ov Y) (.b Y) .nil)<|Ra Y<|Za<|K2 0 4 Y<|Tr<|Rm Y<|R2 Jw Y<|Za<|K3 0 4 20 Y<|If h Y (fun h=>?_) fun h=>?_
 ·
  refine K1 4 Y<|Tr<|Rm Y<|Ra Y<|Ra Y<|Za<|?_
  obtain rfl := rt h
  exact Zp (Z5 Y (.two (.tmp Y<|View.nils 51)<|rb Y))
 ·
  refine Zh<|K1 0 Y<|Tr<|Ra Y<|Za<|I1 (fun out=>⟨[(5, .own 0 out.length)], [some ⟨51, List.map R51 out⟩]⟩) h (fun h=>?_) fun out h=>?_
  ·
   refine Tr<|Rm Y<|Rl tZ_60 ZdI Y<|Rm Y<|Za<|Zf<|?_
   obtain ⟨r1, hl1, ho1⟩ := Xk h
   refine L2 (fun out2 i=>⟨[(5, .own 0 out2.length), (22, .sl 60 (List.map R60 l)), (23, .int .i64 (l.length : Int)), (24, .int .i64 i)], [some ⟨51, List.map R51 out2⟩]⟩) hl1 (ES [none]) fun n1 out2 i h=>?_
   unfold XY at h
   refine Tr<|R2 ZU Y<|Za<|Zg<|If h Y (fun h=>?_) fun h=>?_
   ·
    refine Zh<|I1 (fun out3=>⟨[(5, .own 0 out3.length), (22, .sl 60 (List.map R60 l)), (23, .int .i64 (l.length : Int)), (24, .int .i64 i)], [some ⟨51, List.map R51 out3⟩]⟩) h (fun h=>?_) fun out3 h=>?_
    ·
     refine Zf<|K4 5 22 23 24 Y<|Tr<|Rm Y<|bE h fun x h_x h=>Rq Y (Qz (ov Y) (ov Y) ZdI h_x)<|Rq Y (QP (ov Y) Zay Y Y)<|Rx Y (Qd (row := [_, _, _, _, _]) 1 Y Zex Y tZ_60)<|Ra Y<|Rx Y (Zk (ov Y) (ov Y) (ZB Zay Y) Y Y Y (Nat.le_of_ble_eq_true Y) (Zb Y) Y)<|Za<|K6 5 6 7 22 23 24 Y<|Tr<|Rq Y (QC (ov Y) Y Y Y Zay Y Y)<|bE h fun y2 h_y2 h=>Rq Y (Zt (ZfB h_y2)<|.cons (ov Y) (.aggB Y) .nil)<|Rl tZ_3 Xg Y<|Rm Y<|Za<|Zf<|?_
     obtain ⟨r2, hl2, ho2⟩ := Xk h
     refine L2 (fun out4 i2=>⟨[(5, .own 0 out4.length), (6, .int .i64 i), (7, .ptr 1 1 0 0), (22, .sl 60 (List.map R60 l)), (23, .int .i64 (l.length : Int)), (24, .int .i64 i), (30, .sl 3 (List.map R3 y2)), (31, .int .i64 (y2.length : Int)), (32, .int .i64 i2)], [some ⟨51, List.map R51 out4⟩, some ⟨60, [[.int .i64 x.Slots, .int .i64 x.Limit, .sl 29 (List.map R29 x.Sectors), .sl 3 (List.map R3 x.Wear), .sl 4 (List.map R4 x.Bad)]]⟩]⟩) hl2 (ES [some 0, some 1]) fun n2 out4 i2 h=>?_
     unfold XX at h
     refine Tr<|R2 ZU Y<|Za<|Zg<|If h Y (fun h=>?_) fun h=>?_
     ·
      refine Zh<|I1 (fun out5=>⟨[(5, .own 0 out5.length), (6, .int .i64 i), (7, .ptr 1 1 0 0), (22, .sl 60 (List.map R60 l)), (23, .int .i64 (l.length : Int)), (24, .int .i64 i), (30, .sl 3 (List.map R3 y2)), (31, .int .i64 (y2.length : Int)), (32, .int .i64 i2)], [some ⟨51, List.map R51 out5⟩, some ⟨60, [[.int .i64 x.Slots, .int .i64 x.Limit, .sl 29 (List.map R29 x.Sectors), .sl 3 (List.map R3 x.Wear), .sl 4 (List.map R4 x.Bad)]]⟩]⟩) h (fun h=>?_) fun out5 h=>?_
      ·
       refine Zf<|K9 5 6 7 22 23 24 30 31 32 Y<|Tr<|bE h fun x2 h_x2 h=>Rq Y (Qz (ov Y) (ov Y) Xg h_x2)<|Rq Y (Zi (ov Y) tS3 Y)<|Ra Y<|Za<|K10 5 6 7 9 22 23 24 30 31 32 Y<|Tr<|Rq Y (Zd (ov Y) Y Y ZQ)<|Rq Y (Zv (ov Y) Y Y Y QK Y)<|Rm Y<|bE h fun x3 h_x3 h=>Rq Y (Qz (ov Y) (ov Y) Qp h_x3)<|Rq Y (Zi (ov Y) Zif Y)<|bE h fun y3 h_y3 h=>Rq Y (Zt (ZbP h_y3)<|.cons (ov Y) (.b Y) .nil)<|Rm Y<|Rq Y (Zm (ov Y) Y)<|Rq Y (Zm (ov Y) Y)<|Rq Y (Zm (ov Y) Y)<|Ra Y<|Ra Y<|Ra Y<|Za<|K11 5 6 7 9 10 22 23 24 30 31 32 Y<|Tr<|Rq Y (Zd (ov Y) Y Y Zjo)<|Rq Y (Zv (ov Y) Y Y Y tS3 Y)<|Rm Y<|Za<|Zf<|?_
       obtain ⟨r3, hl3, ho3⟩ := Xk h
       refine L2 (fun out6 i3=>⟨[(5, .own 0 out6.length), (6, .int .i64 i), (7, .ptr 1 1 0 0), (9, .int .i64 x2), (10, .int .i64 y3.1), (22, .sl 60 (List.map R60 l)), (23, .int .i64 (l.length : Int)), (24, .int .i64 i), (30, .sl 3 (List.map R3 y2)), (31, .int .i64 (y2.length : Int)), (32, .int .i64 i2), (47, .int .i64 x.Slots), (48, .int .i64 i3)], [some ⟨51, List.map R51 out6⟩, some ⟨60, [[.int .i64 x.Slots, .int .i64 x.Limit, .sl 29 (List.map R29 x.Sectors), .sl 3 (List.map R3 x.Wear), .sl 4 (List.map R4 x.Bad)]]⟩]⟩) hl3 (ES [some 0, some 1]) fun n3 out6 i3 h=>?_
       unfold X0 at h
       refine Tr<|R2 ZU Y<|Za<|Zg<|If h Y (fun h=>?_) fun h=>?_
       ·
        refine Zh<|Zg<|Zf<|JP (kc 5 Y<|kc 6 Y<|kc 7 Y<|kc 9 Y<|kc 10 Y<|kc 22 Y<|kc 23 Y<|kc 24 Y<|kc 30 Y<|kc 31 Y<|kc 32 Y<|kc 47 Y<|kc 48 Y kn) Y<|Tr<|Rm Y<|Ra Y<|Za<|JP (kc 5 Y<|kc 6 Y<|kc 7 Y<|kc 9 Y<|kc 10 Y<|kc 13 Y<|kc 22 Y<|kc 23 Y<|kc 24 Y<|kc 30 Y<|kc 31 Y<|kc 32 Y<|kc 47 Y<|kc 48 Y kn) Y<|Tr<|Rq Y (Zd (ov Y) Y Y ZQ)<|Rq Y (Zv (ov Y) Y Y Y QK Y)<|Rm Y<|bE h fun x4 h_x4 h=>Rq Y (Qz (ov Y) (ov Y) Qp h_x4)<|Rq Y (Zi (ov Y) Zif Y)<|Rm Y<|bE h fun y4 h_y4 h=>Rq Y (Zt (ZfO h_y4)<|.cons (ov Y) (.b Y)<|.cons (ov Y) (.b Y) .nil)<|Ra Y<|Za<|JP (kc 5 Y<|kc 6 Y<|kc 7 Y<|kc 9 Y<|kc 10 Y<|kc 13 Y<|kc 14 Y<|kc 22 Y<|kc 23 Y<|kc 24 Y<|kc 30 Y<|kc 31 Y<|kc 32 Y<|kc 47 Y<|kc 48 Y kn) Y<|Tr<|Rm Y<|bE h fun y5 h_y5 h=>Rq Y (Zt (ZfD h_y5)<|.cons (ov Y) (.b Y) .nil)<|R2 Zdg Y<|Za<|JP (kc 5 Y<|kc 6 Y<|kc 7 Y<|kc 9 Y<|kc 10 Y<|kc 13 Y<|kc 14 Y<|kc 22 Y<|kc 23 Y<|kc 24 Y<|kc 30 Y<|kc 31 Y<|kc 32 Y<|kc 47 Y<|kc 48 Y<|kc 60 Y kn) Y<|If h Y (fun h=>?_) fun h=>?_
        ·
         exact JP (kc 5 Y<|kc 6 Y<|kc 7 Y<|kc 9 Y<|kc 10 Y<|kc 13 Y<|kc 14 Y<|kc 22 Y<|kc 23 Y<|kc 24 Y<|kc 30 Y<|kc 31 Y<|kc 32 Y<|kc 47 Y<|kc 48 Y kn) Y<|Tr<|Rm Y<|R1 ZN Y<|bE h fun l2 h_l2 h=>Rq Y (ZmE (f := C5) (ov Y) Zmy tZ_5 (Zu arL) Y on on h_l2)<|bE h fun y6 h_y6 h=>Rq Y (Zt (ZgU h_y6)<|.cons (ov Y) (.b Y) .nil)<|Rm Y<|Rq Y (Zm (ov Y) Y)<|Rq Y (Zm (ov Y) Y)<|Rx Y (Qd (row := (List.map C42 (Vector.replicate 64 0).toList)) 2 Y ZhN Y tZ_44)<|Rx Y (Zk (ov Y) (ov Y) (ZB JQ arL) Y Y Y (Zan (Zu arL) arL) (Zb<|arC fun _ => Y)<|Jc<|Eq.trans arL<|Eq.symm arL)<|Ra Y<|Za<|JP (kc 5 Y<|kc 6 Y<|kc 7 Y<|kc 9 Y<|kc 10 Y<|kc 13 Y<|kc 15 Y<|kc 22 Y<|kc 23 Y<|kc 24 Y<|kc 30 Y<|kc 31 Y<|kc 32 Y<|kc 47 Y<|kc 48 Y kn) Y<|Zr<|Rm Y<|Rm Y<|Rm Y<|Rm Y<|Rm Y<|Rq Y (QC (ov Y) Y Y Y JQ (Qo<|Zu arL) arL (hns := (nsM fun _ => Y)))<|Rq Y (Zn5 (zr := (.int .i64 0) :: (.int .i64 0) :: (.int .i64 0) :: (.int .i64 0) :: ((List.map C42 (Vector.replicate 64 0).toList) ++ ([]))) Zra ZqZ Zpf (by kernel_rfl) (.cons (cvs (ov Y)<|Zn Y)<|.cons (cvs (ov Y)<|Zn Y)<|.cons (cvs (ov Y)<|Zn Y)<|.cons (cvs (ov Y)<|Zn Y)<|.cons (cva<|ov Y) .nil)<|Zhr Y Y at1 pt2<|Zhr Y Y at3 pt4<|Zhr Y Y at5 pt6<|Zhr Y Y at7 pt8<|Zhr Y arL at9 ZrQ Zqk)<|R_q (.sl 51<|List.map R51 ([(api_Kept.mk i x2 y3.1 i3 y6.1)] : List api_Kept)) Y (Zal ZlI (.cons (cva<|ov Y) Zab (pwD Zet) .nil) Y Y)<|bE h fun l3 h_l3 h=>Rx Y (XU (ov Y) (Je (ov Y) tZ_51) ZlI Y Y Y (fun x=>Zb<|E51 x) Y h_l3)<|Ra Y<|Za<|JP (kc 5 Y<|kc 6 Y<|kc 7 Y<|kc 9 Y<|kc 10 Y<|kc 22 Y<|kc 23 Y<|kc 24 Y<|kc 30 Y<|kc 31 Y<|kc 32 Y<|kc 47 Y<|kc 48 Y kn) Y<|Zr<|R2 ZW Y<|Rm Y<|Za<|⟨_, h, ES [some 0, some 1]⟩
        ·
         exact Zh<|JP (kc 5 Y<|kc 6 Y<|kc 7 Y<|kc 9 Y<|kc 10 Y<|kc 22 Y<|kc 23 Y<|kc 24 Y<|kc 30 Y<|kc 31 Y<|kc 32 Y<|kc 47 Y<|kc 48 Y kn) Y<|Zr<|R2 ZW Y<|Rm Y<|Za<|⟨_, h, ES [some 0, some 1]⟩
       ·
        refine ZM<|?_
        replace h := lx h ▸ ho3
        exact ⟨_, h, ES [some 0, some 1]⟩
      ·
       exact Zr<|R2 ZW Y<|Rm Y<|Za<|⟨_, h, ES [some 0, some 1]⟩
     ·
      refine ZM<|?_
      replace h := lx h ▸ ho2
      exact ⟨_, h, ES [some 0]⟩
    ·
     exact Zr<|R2 ZW Y<|Rm Y<|Za<|⟨_, h, ES [some 0]⟩
   ·
    refine ZM<|?_
    replace h := lx h ▸ ho1
    exact ⟨_, h, ES [some 0]⟩
  ·
   refine Tr<|Rm Y<|Ra Y<|Ra Y<|Za<|?_
   obtain rfl := rt h
   exact Zp (Z5 Y (.two (.tmp Y<|View.ownM Y Y D51)<|rb Y))
theorem Zlq {xs r : List Int} (h : Zez 1 xs = some r) :
 GSpec Tryd.prog gl0 10 [.sl 5 (List.map R5 xs)] [] (.own 0 r.length) [some ⟨5, List.map R5 r⟩] := by
 have h2 : apz 1 [] xs = some r := h
 refine Q0 (by kernel_rfl) Tryd.func10 Y Y<|?_
 intro w0 A W φ0
 refine Tr<|Ra Y<|Za<|Zg<|Zg<|Zr<|Rm Y<|ZkE (ov Y) ZqN Y fun b hb=>?_
 refine Za<|ZkO Y (fun hb2=>?_) fun hb2=>?_
 ·
  obtain rfl : xs = [] := by simpa using hb hb2
  obtain rfl : r = [] := by simpa [app, apz] using h2.symm
  exact Tr<|Ra Y<|Za<|Zp<|Za2 [none] Y (.cons (.tmp Y) .nil) (.row 5 .nil) Y Y<|.row Y
 ·
  exact Zh<|Tr<|Rx Y (Zks (r := 0) (xs := []) (f := R5) Y Xf .nil Y Y Y)<|Rm Y<|Rx Y (Zib (ov Y) (Je (ov Y) tZ_5) Xf Y Y (fun _=>Zb Y) Y h2)<|Ra Y<|Za<|Zp<|Za2 [some 0] Y (.cons (.tmp Y) .nil) (.cons Y (roM D5) .nil) Y Y<|.own _ Y
theorem ZiA {xs r : List Int} (h : Zez 8 xs = some r) :
 GSpec Tryd.prog gl0 76 [.sl 3 (List.map R3 xs)] [] (.own 0 r.length) [some ⟨3, List.map R3 r⟩] := by
 have h2 : apz 8 [] xs = some r := h
 refine Q0 (by kernel_rfl) Tryd.func76 Y Y<|?_
 intro w0 A W φ0
 refine Tr<|Ra Y<|Za<|Zg<|Zg<|Zr<|Rm Y<|ZkE (ov Y) Zp5 Y fun b hb=>?_
 refine Za<|ZkO Y (fun hb2=>?_) fun hb2=>?_
 ·
  obtain rfl : xs = [] := by simpa using hb hb2
  obtain rfl : r = [] := by simpa [app, apz] using h2.symm
  exact Tr<|Ra Y<|Za<|Zp<|Za2 [none] Y (.cons (.tmp Y) .nil) (.row 3 .nil) Y Y<|.row Y
 ·
  exact Zh<|Tr<|Rx Y (Zks (r := 0) (xs := []) (f := R3) Y Xg .nil Y Y Y)<|Rm Y<|Rx Y (Zib (ov Y) (Je (ov Y) tZ_3) Xg Y Y (fun _=>Zb Y) Y h2)<|Ra Y<|Za<|Zp<|Za2 [some 0] Y (.cons (.tmp Y) .nil) (.cons Y (roM D3) .nil) Y Y<|.own _ Y
theorem ZiJ {xs r : List Bool} (h : Zez 1 xs = some r) :
 GSpec Tryd.prog gl0 77 [.sl 4 (List.map R4 xs)] [] (.own 0 r.length) [some ⟨4, List.map R4 r⟩] := by
 have h2 : apz 1 [] xs = some r := h
 refine Q0 (by kernel_rfl) Tryd.func77 Y Y<|?_
 intro w0 A W φ0
 refine Tr<|Ra Y<|Za<|Zg<|Zg<|Zr<|Rm Y<|ZkE (ov Y) Zqy Y fun b hb=>?_
 refine Za<|ZkO Y (fun hb2=>?_) fun hb2=>?_
 ·
  obtain rfl : xs = [] := by simpa using hb hb2
  obtain rfl : r = [] := by simpa [app, apz] using h2.symm
  exact Tr<|Ra Y<|Za<|Zp<|Za2 [none] Y (.cons (.tmp Y) .nil) (.row 4 .nil) Y Y<|.row Y
 ·
  exact Zh<|Tr<|Rx Y (Zks (r := 0) (xs := []) (f := R4) Y ZjV .nil Y Y Y)<|Rm Y<|Rx Y (Zib (ov Y) (Je (ov Y) tZ_4) ZjV Y Y (fun _=>Zb Y) Y h2)<|Ra Y<|Za<|Zp<|Za2 [some 0] Y (.cons (.tmp Y) .nil) (.cons Y (roM D4) .nil) Y Y<|.own _ Y
theorem Zc6 {m : api_Memory} {r : api_Memory} (h : X8 m = some r) :
 GSpec Tryd.prog gl0 53 [.agg [.int .i64 m.Slots, .int .i64 m.Limit, .sl 29 (List.map R29 m.Sectors), .sl 3 (List.map R3 m.Wear), .sl 4 (List.map R4 m.Bad)]] [] (.agg [.int .i64 r.Slots, .int .i64 r.Limit, .own 0 r.Sectors.length, .own 1 r.Wear.length, .own 2 r.Bad.length]) [some ⟨29, List.map O29 r.Sectors⟩, some ⟨3, List.map R3 r.Wear⟩, some ⟨4, List.map R4 r.Bad⟩] := by
 unfold X8 at h
 replace h := QO h
 refine Q0 (by kernel_rfl) Tryd.func53 Y Y<|?_
 intro w0 A W φ0
 refine Tr<|Rx Y (ZmC 0 Y (ov Y) Zay Y)<|Rx Y (Qd (row := [_, _, _, _, _]) 1 Y Zex Y tZ_60)<|Za<|K2 1 2 Y<|Tr<|Ra Y<|Za<|I1 (fun sectors=>⟨[(1, .ptr 0 1 0 0), (2, .ptr 1 1 0 0), (3, .own 2 sectors.length)], [some ⟨60, [[.int .i64 m.Slots, .int .i64 m.Limit, .sl 29 (List.map R29 m.Sectors), .sl 3 (List.map R3 m.Wear), .sl 4 (List.map R4 m.Bad)]]⟩, some ⟨60, [[.int .i64 0, .int .i64 0, .nils, .nils, .nils]]⟩, some ⟨29, List.map O29 sectors⟩]⟩) h (fun h=>?_) fun sectors h=>?_
 ·
  refine Tr<|Rq Y (Zd (ov Y) Y Y ZQ)<|Rq Y (Zv (ov Y) Y Y Y QK Y)<|Rl tZ_29 Qp Y<|Rm Y<|Za<|Zf<|?_
  obtain ⟨r1, hl1, ho1⟩ := Xk h
  refine L2 (fun sectors2 i=>⟨[(1, .ptr 0 1 0 0), (2, .ptr 1 1 0 0), (3, .own 2 sectors2.length), (7, .sl 29 (List.map R29 m.Sectors)), (8, .int .i64 (m.Sectors.length : Int)), (9, .int .i64 i)], [some ⟨60, [[.int .i64 m.Slots, .int .i64 m.Limit, .sl 29 (List.map R29 m.Sectors), .sl 3 (List.map R3 m.Wear), .sl 4 (List.map R4 m.Bad)]]⟩, some ⟨60, [[.int .i64 0, .int .i64 0, .nils, .nils, .nils]]⟩, some ⟨29, List.map O29 sectors2⟩]⟩) hl1 (ES [some 0, some 1, none]) fun n1 sectors2 i h=>?_
  unfold Q8 at h
  refine Tr<|R2 ZU Y<|Za<|Zg<|If h Y (fun h=>?_) fun h=>?_
  ·
   exact Zh<|Zg<|Zf<|K6 1 2 3 7 8 9 Y<|Tr<|bE h fun x h_x h=>Rq Y (Qz (ov Y) (ov Y) Qp h_x)<|Rq Y (Zi (ov Y) Zif Y)<|Ra Y<|Za<|K7 1 2 3 5 7 8 9 Y<|Zr<|Rm Y<|Rm Y<|bE h fun y h_y h=>Rx Y (ZE [] (Zlq h_y) (.cons (ov Y) (.dat Y) .nil) .nil Y (.keep Y Y<|.keep Y Y<|.keep Y Y<|.lent 0 (.inr ⟨Nat.le_of_ble_eq_true Y, Y⟩) Y (roM D5) .nil) Y Y<|.own _<|.inr ⟨Nat.le_of_ble_eq_true Y, Y⟩)<|Rx Y (Q1 (r := 4) Y Qp (.cons (cvs (ov Y)<|Zn Y) Y .nil) Y Y)<|bE h fun l h_l h=>Rx Y (ZP (f := O29) (ov Y) (Qi (o := ⟨29, [[.own 3 y.length]]⟩) (ov Y) Y Y tZ_29) Qp Y Y (Zb Y) Y h_l)<|Ra Y<|Zf1 [some ⟨60, [[.int .i64 m.Slots, .int .i64 m.Limit, .sl 29 (List.map R29 m.Sectors), .sl 3 (List.map R3 m.Wear), .sl 4 (List.map R4 m.Bad)]]⟩, some ⟨60, [[.int .i64 0, .int .i64 0, .nils, .nils, .nils]]⟩, some ⟨29, List.set (List.map O29 l) sectors2.length [.own 3 y.length]⟩, some ⟨5, List.map R5 y⟩, some ⟨29, [[.own 3 y.length]]⟩] Y<|Xz (Ent.absorbH (r := 2) (j := 0) (q := 3) Y (Zo h_l) Y Y (List.length_map ..) Y)<|Xz (Ent.closeS (r := 2) Y (Zo h_l) Y)<|Za<|K6 1 2 3 7 8 9 Y<|QR [some ⟨60, [[.int .i64 m.Slots, .int .i64 m.Limit, .sl 29 (List.map R29 m.Sectors), .sl 3 (List.map R3 m.Wear), .sl 4 (List.map R4 m.Bad)]]⟩, some ⟨60, [[.int .i64 0, .int .i64 0, .nils, .nils, .nils]]⟩, some ⟨29, List.map O29 l⟩, none, some ⟨29, [[.own 3 y.length]]⟩] Y<|Zr<|R2 ZW Y<|Rm Y<|Za<|⟨_, h, ES [some 0, some 1, some 2] (hhp := .cons Y (ro1 (by exact tZ_60.symm)<|rld Y)<|.cons Y (ro1 (by exact tZ_60.symm)<|rld Y)<|.cons Y (roO Ju) .nil)⟩
  ·
   refine ZM<|?_
   replace h := lx h ▸ ho1
   exact ⟨_, h, ES [some 0, some 1, some 2] (hhp := .cons Y (ro1 (by exact tZ_60.symm)<|rld Y)<|.cons Y (ro1 (by exact tZ_60.symm)<|rld Y)<|.cons Y (roO Ju) .nil)⟩
 ·
  refine Zg<|QM (cw := ⟨true, true, [some ⟨60, [[.int .i64 m.Slots, .int .i64 m.Limit, .sl 29 (List.map R29 m.Sectors), .sl 3 (List.map R3 m.Wear), .sl 4 (List.map R4 m.Bad)]]⟩, some ⟨60, [[.int .i64 0, .int .i64 0, .nils, .nils, .nils]]⟩, some ⟨29, List.map O29 sectors⟩], [], [0]⟩) (by kernel_rfl)<|Dq 1 Y (Zd (ov Y) Y Y ZgY)<|Dq 2 Y (Zv (ov Y) Y Y Y Zmc Y)<|ZZ 0 _ Y (by kernel_rfl) Y Y (fun hp'=>Zc<|ov Y)<|Q2 4 _ Y (by kernel_rfl) Y Y Y (EL.ext<|.wr Y Y Y<|.keep<|.keep .nil) (fun hp' hx=>exW (r := 0) hx Y fun _ ho hn => Zd (ov Y) ho hn ZhY)<|bE h fun y2 h_y2 h=>Zn8 5 3 Y Y (by kernel_rfl) Y Y Y Y (fun h=>by cases h) (fun _=>by exact EL.ext (.wr rfl rfl rfl <| .keep <| .keep <| .nil)) (Zv (ov Y) Y Y Y Zl1 Y) (ZE [] (ZiA h_y2) (.cons (ov Y) (.dat Y) .nil) .nil Y (.keep Y Y<|.keep Y Y<|.keep Y Y<|.lent 0 (.inr ⟨Nat.le_of_ble_eq_true Y, Y⟩) Y (roM D3) .nil) Y Y<|.own _<|.inr ⟨Nat.le_of_ble_eq_true Y, Y⟩) ?_ ?_
  ·
   refine Q2 7 _ Y (by kernel_rfl) Y Y Y (EL.ext<|.wr Y Y Y<|.keep<|.keep .nil) (fun hp' hx=>exW (r := 0) hx Y fun _ ho hn => Zd (ov Y) ho hn ZQ)<|Zad 3 _ _ Y (by kernel_rfl) Y Y (fun h=>by cases h) (fun _=>by exact EL.ext (.wr rfl rfl rfl <| .keep <| .keep <| .nil)) (ZE [] (ZiA h_y2) (.cons (ov Y) (.dat Y) .nil) .nil Y (.keep Y Y<|.keep Y Y<|.keep Y Y<|.lent 0 (.inr ⟨Nat.le_of_ble_eq_true Y, Y⟩) Y (roM D3) .nil) Y Y<|.own _<|.inr ⟨Nat.le_of_ble_eq_true Y, Y⟩)<|bE h fun y3 h_y3 h=>Zad 6 _ _ Y (by kernel_rfl) Y Y (fun h=>by cases h) (fun _=>by exact EL.ext (.wr rfl rfl rfl <| .keep <| .keep <| .nil)) (ZE [] (ZiJ h_y3) (.cons (ov Y) (.dat Y) .nil) .nil Y (.keep Y Y<|.keep Y Y<|.keep Y Y<|.keep Y Y<|.lent 0 (.inr ⟨Nat.le_of_ble_eq_true Y, Y⟩) Y (roM D4) .nil) Y Y<|.own _<|.inr ⟨Nat.le_of_ble_eq_true Y, Y⟩)<|Zad 8 _ _ Y (by kernel_rfl) Y Y (fun h=>by cases h) (fun _=>by exact EL.ext (.wr rfl rfl rfl <| .keep <| .keep <| .nil)) (Zk (ov Y) (ov Y) (Ze QK) Y Y Y (Nat.le_of_ble_eq_true Y) (Zb Y) Y)<|Dq 9 Y (Zd (ov Y) Y Y ZgY)<|Zad 10 _ _ Y (by kernel_rfl) Y Y (fun h=>by cases h) (fun _=>by exact EL.ext (.wr rfl rfl rfl <| .keep <| .keep <| .nil)) (Zk (ov Y) (ov Y) (Ze Zmc) Y Y Y (Nat.le_of_ble_eq_true Y) (Zb Y) Y)<|Dq 11 Y (Zd (ov Y) Y Y ZhY)<|Zad 12 _ _ Y (by kernel_rfl) Y Y (fun h=>by cases h) (fun _=>by exact EL.ext (.wr rfl rfl rfl <| .keep <| .keep <| .nil)) (Zk (ov Y) (ov Y) (Ze Zl1) Y Y Y (Nat.le_of_ble_eq_true Y) (Zb Y) Y)<|Dd<|K2 1 2 Y<|QR [some ⟨60, [[.int .i64 m.Slots, .int .i64 m.Limit, .own 2 sectors.length, .own 3 y2.length, .own 4 y3.length]]⟩, some ⟨60, [[.int .i64 0, .int .i64 0, .nils, .nils, .nils]]⟩, some ⟨29, List.map O29 sectors⟩, some ⟨3, List.map R3 y2⟩, some ⟨4, List.map R4 y3⟩] Y<|Tr<|Rq Y (QC (ov Y) Y Y Y Zay Y Y)<|Rx Y (Zk (ov Y) (ov Y) (ZB Zay Y) Y Y Y (Nat.le_of_ble_eq_true Y) (Zb Y) Y)<|Za<|?_
   obtain rfl := rt h
   exact Zp<|Za2 [some 2, some 3, some 4] Y (.cons (.agg Y Y Y Y Zay Y Y) .nil) (.cons Y (roO Ju)<|.cons Y (roM D3)<|.cons Y (roM D4) .nil) Y Y<|Ze3<|rlc (.dat Y)<|rlc (.dat Y)<|rlc (.own _ Y)<|rlc (.own _ Y)<|rlc (.own _ Y) rln
  ·
   refine Dq 5 Y (Zv (ov Y) Y Y Y Zl1 Y)<|Q2 7 _ Y (by kernel_rfl) Y Y Y (EL.ext<|.wr Y Y Y<|.keep<|.keep .nil) (fun hp' hx=>exW (r := 0) hx Y fun _ ho hn => Zd (ov Y) ho hn ZQ)<|bE h fun y3 h_y3 h=>Zad 6 _ _ Y (by kernel_rfl) Y Y (fun h=>by cases h) (fun _=>by exact EL.ext (.wr rfl rfl rfl <| .keep <| .keep <| .nil)) (ZE [] (ZiJ h_y3) (.cons (ov Y) (.dat Y) .nil) .nil Y (.keep Y Y<|.keep Y Y<|.keep Y Y<|.keep Y Y<|.lent 0 (.inr ⟨Nat.le_of_ble_eq_true Y, Y⟩) Y (roM D4) .nil) Y Y<|.own _<|.inr ⟨Nat.le_of_ble_eq_true Y, Y⟩)<|Zad 8 _ _ Y (by kernel_rfl) Y Y (fun h=>by cases h) (fun _=>by exact EL.ext (.wr rfl rfl rfl <| .keep <| .keep <| .nil)) (Zk (ov Y) (ov Y) (Ze QK) Y Y Y (Nat.le_of_ble_eq_true Y) (Zb Y) Y)<|Dq 9 Y (Zd (ov Y) Y Y ZgY)<|Zad 10 _ _ Y (by kernel_rfl) Y Y (fun h=>by cases h) (fun _=>by exact EL.ext (.wr rfl rfl rfl <| .keep <| .keep <| .nil)) (Zk (ov Y) (ov Y) (Ze Zmc) Y Y Y (Nat.le_of_ble_eq_true Y) (Zb Y) Y)<|Dq 11 Y (Zd (ov Y) Y Y ZhY)<|Zad 12 _ _ Y (by kernel_rfl) Y Y (fun h=>by cases h) (fun _=>by exact EL.ext (.wr rfl rfl rfl <| .keep <| .keep <| .nil)) (Zk (ov Y) (ov Y) (Ze Zl1) Y Y Y (Nat.le_of_ble_eq_true Y) (Zb Y) Y)<|Dd<|K2 1 2 Y<|QR [some ⟨60, [[.int .i64 m.Slots, .int .i64 m.Limit, .own 2 sectors.length, .own 3 y2.length, .own 4 y3.length]]⟩, some ⟨60, [[.int .i64 0, .int .i64 0, .nils, .nils, .nils]]⟩, some ⟨29, List.map O29 sectors⟩, some ⟨3, List.map R3 y2⟩, some ⟨4, List.map R4 y3⟩] Y<|Tr<|Rq Y (QC (ov Y) Y Y Y Zay Y Y)<|Rx Y (Zk (ov Y) (ov Y) (ZB Zay Y) Y Y Y (Nat.le_of_ble_eq_true Y) (Zb Y) Y)<|Za<|?_
   obtain rfl := rt h
   exact Zp<|Za2 [some 2, some 3, some 4] Y (.cons (.agg Y Y Y Y Zay Y Y) .nil) (.cons Y (roO Ju)<|.cons Y (roM D3)<|.cons Y (roM D4) .nil) Y Y<|Ze3<|rlc (.dat Y)<|rlc (.dat Y)<|rlc (.own _ Y)<|rlc (.own _ Y)<|rlc (.own _ Y) rln
theorem ZhP {l : List api_Memory} {r : (List api_Memory)} (h : XH l = some r) :
 GSpec Tryd.prog gl0 31 [.sl 60 (List.map R60 l)] [] (.own 0 r.length) [some ⟨60, List.map O60 r⟩] := by
 unfold XH at h
 replace h := QO h
 refine Q0 (by kernel_rfl) Tryd.func31 Y Y<|?_
 intro w0 A W φ0
 refine Tr<|Ra Y<|Za<|K1 0 Y<|Tr<|Ra Y<|Za<|I1 (fun out=>⟨[(3, .own 0 out.length)], [some ⟨60, List.map O60 out⟩]⟩) h (fun h=>?_) fun out h=>?_
 ·
  refine Tr<|Rm Y<|Rl tZ_60 ZdI Y<|Rm Y<|Za<|Zf<|?_
  obtain ⟨r1, hl1, ho1⟩ := Xk h
  refine L2 (fun out2 i=>⟨[(3, .own 0 out2.length), (6, .sl 60 (List.map R60 l)), (7, .int .i64 (l.length : Int)), (8, .int .i64 i)], [some ⟨60, List.map O60 out2⟩]⟩) hl1 (ES [none]) fun n1 out2 i h=>?_
  unfold Xt at h
  refine Tr<|R2 ZU Y<|Za<|Zg<|If h Y (fun h=>?_) fun h=>?_
  ·
   exact Zh<|Zg<|Zf<|K4 3 6 7 8 Y<|Tr<|bE h fun x h_x h=>Rq Y (Qz (ov Y) (ov Y) ZdI h_x)<|Rq Y (QP (ov Y) Zay Y Y)<|Rx Y (Qd (row := [_, _, _, _, _]) 1 Y Zex Y tZ_60)<|Rx Y (Zk (ov Y) (ov Y) (ZB Zay Y) Y Y Y (Nat.le_of_ble_eq_true Y) (Zb Y) Y)<|Za<|K5 3 5 6 7 8 Y<|QR [some ⟨60, List.map O60 out2⟩, some ⟨60, [[.int .i64 x.Slots, .int .i64 x.Limit, .sl 29 (List.map R29 x.Sectors), .sl 3 (List.map R3 x.Wear), .sl 4 (List.map R4 x.Bad)]]⟩] Y<|Zr<|Rm Y<|Rq Y (QC (ov Y) Y Y Y Zay Y Y)<|bE h fun y h_y h=>Rx Y (ZE [] (Zc6 h_y) (.cons (ov Y) (Ze3<|rld Y) .nil) .nil Y (.keep Y Y<|.keep Y Y<|.lent 0 (.inr ⟨Nat.le_of_ble_eq_true Y, Y⟩) Y (roO Ju)<|.lent 1 (.inr ⟨Nat.le_of_ble_eq_true Y, Y⟩) Y (roM D3)<|.lent 2 (.inr ⟨Nat.le_of_ble_eq_true Y, Y⟩) Y (roM D4) .nil) Y Y<|Ze3<|rlc (.dat Y)<|rlc (.dat Y)<|rlc (.own _<|.inr ⟨Nat.le_of_ble_eq_true Y, Y⟩)<|rlc (.own _<|.inr ⟨Nat.le_of_ble_eq_true Y, Y⟩)<|rlc (.own _<|.inr ⟨Nat.le_of_ble_eq_true Y, Y⟩) rln)<|Rx Y (Q1 (r := 5) Y ZdI (.cons (cva<|ov Y) Y .nil) Y Y)<|bE h fun l2 h_l2 h=>Rx Y (ZP (f := O60) (ov Y) (Qi (o := ⟨60, [[.int .i64 y.Slots, .int .i64 y.Limit, .own 2 y.Sectors.length, .own 3 y.Wear.length, .own 4 y.Bad.length]]⟩) (ov Y) Y Y tZ_60) ZdI Y Y (Zb Y) Y h_l2)<|Ra Y<|Zf1 [some ⟨60, List.set (List.map O60 l2) out2.length [.int .i64 y.Slots, .int .i64 y.Limit, .own 2 y.Sectors.length, .own 3 y.Wear.length, .own 4 y.Bad.length]⟩, some ⟨60, [[.int .i64 x.Slots, .int .i64 x.Limit, .sl 29 (List.map R29 x.Sectors), .sl 3 (List.map R3 x.Wear), .sl 4 (List.map R4 x.Bad)]]⟩, some ⟨29, List.map O29 y.Sectors⟩, some ⟨3, List.map R3 y.Wear⟩, some ⟨4, List.map R4 y.Bad⟩, some ⟨60, [[.int .i64 y.Slots, .int .i64 y.Limit, .own 2 y.Sectors.length, .own 3 y.Wear.length, .own 4 y.Bad.length]]⟩] Y<|Xz (Ent.absorbH (r := 0) (j := 2) (q := 2) Y (Zo h_l2) Y Y (List.length_map ..) Y)<|Xz (Ent.absorbH (r := 0) (j := 3) (q := 3) Y (Zo h_l2) Y Y (List.length_map ..) Y)<|Xz (Ent.absorbH (r := 0) (j := 4) (q := 4) Y (Zo h_l2) Y Y (List.length_map ..) Y)<|Xz (Ent.closeS (r := 0) Y (Zo h_l2) Y)<|Za<|K4 3 6 7 8 Y<|QR [some ⟨60, List.map O60 l2⟩, some ⟨60, [[.int .i64 x.Slots, .int .i64 x.Limit, .sl 29 (List.map R29 x.Sectors), .sl 3 (List.map R3 x.Wear), .sl 4 (List.map R4 x.Bad)]]⟩, none, none, none, some ⟨60, [[.int .i64 y.Slots, .int .i64 y.Limit, .own 2 y.Sectors.length, .own 3 y.Wear.length, .own 4 y.Bad.length]]⟩] Y<|Zr<|R2 ZW Y<|Rm Y<|Za<|⟨_, h, ES [some 0] (hhp := .cons Y (roO Q6) .nil)⟩
  ·
   refine ZM<|?_
   replace h := lx h ▸ ho1
   exact ⟨_, h, ES [some 0] (hhp := .cons Y (roO Q6) .nil)⟩
 ·
  refine Tr<|Rm Y<|Ra Y<|Za<|?_
  obtain rfl := rt h
  exact Zp<|Za2 [some 0] Y (.cons (.tmp Y) .nil) (.cons Y (roO Q6) .nil) Y Y<|.own _ Y
theorem Zii {m : api_Memory} {r : ring_spot} (h : JO m = some r) :
 CSpec Tryd.prog gl0 32 [.agg [.int .i64 m.Slots, .int .i64 m.Limit, .sl 29 (List.map R29 m.Sectors), .sl 3 (List.map R3 m.Wear), .sl 4 (List.map R4 m.Bad)]] (.agg [.int .i64 r.sector, .int .i64 r.slot]) := by
 unfold JO at h
 replace h := QO h
 refine So Tryd.func32 Y fun w0 A=>Tr<|Rq Y (Zdm (cva<|ov Y) Y tZ_60 Y)<|Rx Y (Qd (row := [_, _]) 0 Y ZlX Y tZ_83)<|Za<|K2 1 2 Y<|Tr<|Rq Y (QP (ov Y) Zay Y Y)<|bE h fun y h_y h=>Rq Y (Zt (ZfB h_y)<|.cons (ov Y) (.aggB Y) .nil)<|Ra Y<|Za<|Zg<|K3 1 2 3 Y<|Tr<|Rm Y<|Rl tZ_3 Xg Y<|R2 Zdg Y<|Za<|K4 1 2 3 10 Y<|If h Y (fun h=>?_) fun h=>?_
 ·
  refine K1 2 Y<|Tr<|Rq Y (JE (ys := [_, _]) ZnH Zns ZlX (.cons (cvs (ov Y)<|Zn Y) .nil) Y)<|Rx Y (Zk (ov Y) (ov Y) (ZB ZjE Y) Y Y Y (Nat.le_of_ble_eq_true Y) (Zb Y) Y)<|Za<|?_
  obtain rfl := rt h
  exact Zp (Z5 Y (.one<|.agg Y Y Y Y ZjE Y Y<|pwB Y))
 ·
  refine Zh<|K3 1 2 3 Y<|Tr<|Rm Y<|Rm Y<|Rl tZ_3 Xg Y<|R2 Zcq Y<|bE h fun x h_x h=>Rq Y (Qz (ov Y) (ov Y) Xg h_x)<|Rq Y (Zi (ov Y) tS3 Y)<|Rq Y (JE (ys := [_, _]) ZnH Zns ZlX (.cons (cvs (ov Y)<|Zn Y) .nil) Y)<|Rx Y (Qd (row := [_, _]) 1 Y ZlX Y tZ_83)<|Rx Y (Zk (ov Y) (ov Y) (ZB ZjE Y) Y Y Y (Nat.le_of_ble_eq_true Y) (Zb Y) Y)<|Za<|I1 (fun slot=>⟨[(2, .ptr 0 1 0 0), (4, .ptr 1 1 0 0)], [some ⟨83, [[.int .i64 0, .int .i64 0]]⟩, some ⟨83, [[.int .i64 x, .int .i64 slot]]⟩]⟩) h (fun h=>?_) fun slot h=>?_
  ·
   refine K3 1 2 4 Y<|Tr<|Rq Y (Qj (ov Y) Zjo)<|Rq Y (Zi (ov Y) tS3 Y)<|Rm Y<|Za<|Zf<|?_
   obtain ⟨r1, hl1, ho1⟩ := Xk h
   refine L2 (fun slot2 i=>⟨[(1, .rp [.int .i64 m.Slots, .int .i64 m.Limit, .sl 29 (List.map R29 m.Sectors), .sl 3 (List.map R3 m.Wear), .sl 4 (List.map R4 m.Bad)] 0), (2, .ptr 0 1 0 0), (4, .ptr 1 1 0 0), (20, .int .i64 m.Slots), (21, .int .i64 i)], [some ⟨83, [[.int .i64 0, .int .i64 0]]⟩, some ⟨83, [[.int .i64 x, .int .i64 slot2]]⟩]⟩) hl1 (ES [some 0, some 1]) fun n1 slot2 i h=>?_
   unfold XC at h
   refine Tr<|R2 ZU Y<|Za<|Zg<|If h Y (fun h=>?_) fun h=>?_
   ·
    refine Zh<|Zg<|Zf<|K5 1 2 4 20 21 Y<|Tr<|Rm Y<|Ra Y<|Za<|K6 1 2 4 5 20 21 Y<|Tr<|Rq Y (Qj (ov Y) ZQ)<|Rq Y (Zi (ov Y) QK Y)<|Rq Y (Zd (ov Y) Y Y Zga)<|Rq Y (Zv (ov Y) Y Y Y tS3 Y)<|bE h fun x2 h_x2 h=>Rq Y (Qz (ov Y) (ov Y) Qp h_x2)<|Rq Y (Zi (ov Y) Zif Y)<|Rm Y<|bE h fun y2 h_y2 h=>Rq Y (Zt (ZfO h_y2)<|.cons (ov Y) (.b Y)<|.cons (ov Y) (.b Y) .nil)<|bE h fun y3 h_y3 h=>Rq Y (Zt (ZfD h_y3)<|.cons (ov Y) (.b Y) .nil)<|R2 Jw Y<|Za<|K7 1 2 4 5 20 21 33 Y<|If h Y (fun h=>?_) fun h=>?_
    ·
     exact K6 1 2 4 5 20 21 Y<|Zr<|Rm Y<|R2 ZW Y<|Rq Y (Zd (ov Y) Y Y Zjb)<|Rx Y (Zk (ov Y) (ov Y) (Ze tS3) Y Y Y (Nat.le_of_ble_eq_true Y) (Zb Y) Y)<|Za<|K5 1 2 4 20 21 Y<|Zr<|R2 ZW Y<|Rm Y<|Za<|⟨_, h, ES [some 0, some 1]⟩
    ·
     exact Zh<|K5 1 2 4 20 21 Y<|Zr<|R2 ZW Y<|Rm Y<|Za<|⟨_, h, ES [some 0, some 1]⟩
   ·
    refine ZM<|?_
    replace h := lx h ▸ ho1
    exact ⟨_, h, ES [some 0, some 1]⟩
  ·
   refine Tr<|Rq Y (QC (ov Y) Y Y Y ZjE Y Y)<|Rx Y (Zk (ov Y) (ov Y) (ZB ZjE Y) Y Y Y (Nat.le_of_ble_eq_true Y) (Zb Y) Y)<|Za<|?_
   obtain rfl := rt h
   exact Zp (Z5 Y (.one<|.agg Y Y Y Y ZjE Y Y<|pwB Y))
theorem Zfu {l : List api_Memory} {copies : Int} {r : (Int) ⊕ (ring_Recorder × Int)} (h : Js l copies = some r) :
 GSpec Tryd.prog gl0 13 [.sl 60 (List.map R60 l), .int .i64 copies] [] (Sum.elim (fun r => .tuple [.lit (.pointer none), .int .i64 r]) (fun r => .tuple [.ptr 0 1 0 0, .int .i64 r.2]) r) (Sum.elim (fun r => []) (fun r => [some ⟨80, [[.own 1 r.1.bank.memories.length, .own 2 r.1.bank.spots.length, .int .i64 r.1.copies, .bool r.1.frozen, .bool r.1.stopped, .int .i64 r.1.last, .bool r.1.some_]]⟩, some ⟨60, List.map O60 r.1.bank.memories⟩, some ⟨83, List.map R83 r.1.bank.spots⟩]) r) := by
 unfold Js at h
 replace h := QO h
 refine Q0 (by kernel_rfl) Tryd.func13 Y Y<|?_
 intro w0 A W φ0
 refine Tr<|Ra Y<|Ra Y<|Za<|Zg<|K2 0 1 Y<|Tr<|Rm Y<|bE h fun y h_y h=>Rq Y (Zt (ZeJ h_y)<|.cons (ov Y) (.b Y) .nil)<|Ra Y<|Za<|K3 0 1 6 Y<|Tr<|Rm Y<|R2 Jw Y<|Za<|K4 0 1 6 17 Y<|If h Y (fun h=>?_) fun h=>?_
 ·
  refine K1 6 Y<|Tr<|Rm Y<|Ra Y<|Ra Y<|Za<|?_
  obtain rfl := rt h
  exact Zp<|Za2 [] Y (.cons (.tmp Y)<|.cons (.tmp Y) .nil) .nil Y Y<|Xa<|rlc (.dat Y)<|rlc (.dat Y) rln
 ·
  refine Zh<|Zg<|K2 0 1 Y<|Tr<|Rm Y<|Rm Y<|Rl tZ_60 ZdI Y<|bE h fun y2 h_y2 h=>Rq Y (Zt (QT h_y2)<|.cons (ov Y) (.b Y)<|.cons (ov Y) (.b Y)<|.cons (ov Y) (.b Y) .nil)<|R1 JZ Y<|Za<|K3 0 1 23 Y<|If h Y (fun h=>?_) fun h=>?_
  ·
   refine K0<|Tr<|Ra Y<|Ra Y<|Za<|?_
   obtain rfl := rt h
   exact Zp<|Za2 [] Y (.cons (.tmp Y)<|.cons (.tmp Y) .nil) .nil Y Y<|Xa<|rlc (.dat Y)<|rlc (.dat Y) rln
  ·
   refine Zh<|K2 0 1 Y<|Tr<|Rm Y<|Rq Y (JE (ys := [_, _, _, _, _, _, _]) Zrn Zrw ZrJ (.cons (cvs (ov Y)<|Zn Y) .nil) Y)<|Rx Y (ZmC 0 Y (ov Y) Zry Y)<|Ra Y<|Za<|K2 0 7 Y<|Tr<|Rm Y<|Rm Y<|bE h fun y3 h_y3 h=>Rx Y (ZE [] (ZhP h_y3) (.cons (ov Y) (.dat Y) .nil) .nil Y (.keep Y Y<|.lent 0 (.inr ⟨Nat.le_of_ble_eq_true Y, Y⟩) Y (roO Q6) .nil) Y Y<|.own _<|.inr ⟨Nat.le_of_ble_eq_true Y, Y⟩)<|Rq Y (Zy (ov Y) Y Y)<|Rq Y (Zd (ov Y) Y Y Zey)<|Rq Y (Zd (ov Y) Y Y ZeG)<|Rx Y (Zk (ov Y) (ov Y) (Ze ZjZ) Y Y Y (Nat.le_of_ble_eq_true Y) (Zb Y) Y)<|Za<|I2 (fun spots frozen=>⟨[(7, .ptr 0 1 0 0)], [some ⟨80, [[.own 1 y3.length, .own 2 spots.length, .int .i64 copies, .bool frozen, .bool false, .int .i64 0, .bool false]]⟩, some ⟨60, List.map O60 y3⟩, some ⟨83, List.map R83 spots⟩]⟩) h (fun h=>?_) fun spots frozen h=>?_
   ·
    refine K1 7 Y<|QR [some ⟨80, [[.own 1 y3.length, .nils, .int .i64 copies, .bool false, .bool false, .int .i64 0, .bool false]]⟩, some ⟨60, List.map O60 y3⟩] Y<|Tr<|Rm Y<|Rq Y (Zy (ov Y) Y Y)<|Rq Y (Zd (ov Y) Y Y Zey)<|Rq Y (Zd (ov Y) Y Y ZeG)<|Rq Y (Zv (ov Y) Y Y Y ZjZ Y)<|Rq Y (Zfn (ov Y) Y Y ZdI)<|Rm Y<|Za<|Zf<|?_
    obtain ⟨r1, hl1, ho1⟩ := Xk h
    refine L3 (fun spots2 frozen2 i=>⟨[(7, .ptr 0 1 0 0), (37, .own 1 y3.length), (38, .int .i64 (y3.length : Int)), (39, .int .i64 i)], [some ⟨80, [[.own 1 y3.length, .own 2 spots2.length, .int .i64 copies, .bool frozen2, .bool false, .int .i64 0, .bool false]]⟩, some ⟨60, List.map O60 y3⟩, some ⟨83, List.map R83 spots2⟩]⟩) hl1 (ES [some 0, some 1, none] (hhp := .cons Y (ro1 (by exact tZ_80.symm)<|rlc (.own _ Y)<|rlc (.row Y)<|rlc (.dat Y)<|rlc (.dat Y)<|rlc (.dat Y)<|rlc (.dat Y)<|rlc (.dat Y) rln)<|.cons Y (roO Q6)<|.row 83 .nil)) fun n1 spots2 frozen2 i h=>?_
    unfold JW at h
    refine Tr<|R2 ZU Y<|Za<|Zg<|If h Y (fun h=>?_) fun h=>?_
    ·
     refine Zh<|Zg<|Zf<|K4 7 37 38 39 Y<|Tr<|bE h fun x h_x h=>Rq Y (QB (ov Y) (ov Y) ZdI Y Y h_x)<|Xz (Ent.focusH (r := 1) (j := 2) (e' := 29) (g := O29) (ys := x.Sectors) Y (ZA h_x).2 Y Ju)<|Xz (Ent.focusI (r := 1) (j := 3) (e' := 3) (g := R3) (ys := x.Wear) Y (ZA h_x).2 Y DR3)<|Xz (Ent.focusI (r := 1) (j := 4) (e' := 4) (g := R4) (ys := x.Bad) Y (ZA h_x).2 Y DR4)<|Rq Y (ZoG (ov Y) Y Y (ZA h_x).2 Zay Y Y)<|Rx Y (Qd (row := [_, _, _, _, _]) 6 Y Zex Y tZ_60)<|Rx Y (Zk (ov Y) (ov Y) (ZB Zay Y) Y Y Y (Nat.le_of_ble_eq_true Y) (Zb Y) Y)<|Zf1 [some ⟨80, [[.own 1 y3.length, .own 2 spots2.length, .int .i64 copies, .bool frozen2, .bool false, .int .i64 0, .bool false]]⟩, some ⟨60, List.set (List.map O60 y3) i.toNat [.int .i64 x.Slots, .int .i64 x.Limit, .own 3 x.Sectors.length, .own 4 x.Wear.length, .own 5 x.Bad.length]⟩, some ⟨83, List.map R83 spots2⟩, some ⟨29, List.map O29 x.Sectors⟩, some ⟨3, List.map R3 x.Wear⟩, some ⟨4, List.map R4 x.Bad⟩, some ⟨60, [[.int .i64 x.Slots, .int .i64 x.Limit, .own 3 x.Sectors.length, .own 4 x.Wear.length, .own 5 x.Bad.length]]⟩] Y<|Za<|K5 7 9 37 38 39 Y<|Tr<|Rq Y (QC (ov Y) Y Y Y Zay Y Y)<|bE h fun y4 h_y4 h=>Rq Y (Zc2 (Zii h_y4) (.agg<|by simp only [List.mem_cons, List.not_mem_nil, or_false, forall_eq_or_imp, forall_eq]; exact ⟨.int, .int⟩)<|.cons (ov Y) (View.aggL<|.cons (Dat.view<|.b Y)<|.cons (Dat.view<|.b Y)<|.cons (View.ownO Y Y Ju (fun x=>(D29 x).1) ZpU)<|.cons (View.ownM Y Y D3)<|.cons (View.ownM Y Y D4) .nil) .nil)<|Rx Y (Qd (row := [_, _]) 7 Y ZlX Y tZ_83)<|Rx Y (Zk (ov Y) (ov Y) (ZB ZjE Y) Y Y Y (Nat.le_of_ble_eq_true Y) (Zb Y) Y)<|Zf1 [some ⟨80, [[.own 1 y3.length, .own 2 spots2.length, .int .i64 copies, .bool frozen2, .bool false, .int .i64 0, .bool false]]⟩, some ⟨60, List.set (List.map O60 y3) i.toNat [.int .i64 x.Slots, .int .i64 x.Limit, .own 3 x.Sectors.length, .own 4 x.Wear.length, .own 5 x.Bad.length]⟩, some ⟨83, List.map R83 spots2⟩, some ⟨29, List.map O29 x.Sectors⟩, some ⟨3, List.map R3 x.Wear⟩, some ⟨4, List.map R4 x.Bad⟩, some ⟨60, [[.int .i64 x.Slots, .int .i64 x.Limit, .own 3 x.Sectors.length, .own 4 x.Wear.length, .own 5 x.Bad.length]]⟩, some ⟨83, [[.int .i64 y4.sector, .int .i64 y4.slot]]⟩] Y<|Za<|Zg<|K6 7 9 10 37 38 39 Y<|QM (cw := md0) (by kernel_rfl)<|D1 1 Zc Y<|Dq 2 Y (Zy (ov Y) Y Y)<|Dq 3 Y (Zd (ov Y) Y Y Zey)<|Dq 4 Y (Zd (ov Y) Y Y Zgg)<|Dq 5 Y (Zv (ov Y) Y Y Y Zk1 Y)<|Dq 6 Y (QC (ov Y) Y Y Y ZjE Y Y)<|Zpr 7 (.sl 83<|List.map R83 ([y4] : List ring_spot)) Y (by kernel_rfl) Y Y (Zal ZkG (.cons (cva<|ov Y) Y (pwD Y) .nil) Y Y)<|ZZ 0 _ Y (by kernel_rfl) Y Y (fun hp'=>Zc<|ov Y)<|bE h fun l2 h_l2 h=>Do 8 Y (XU (ov Y) (Je (ov Y) tZ_83) ZkG Y Y Y (fun _=>Zb Y) Y h_l2)<|Dq 9 Y (Zy (ov Y) Y Y)<|Dq 10 Y (Zd (ov Y) Y Y Zey)<|Dq 11 Y (Zd (ov Y) Y Y Zgg)<|Do 12 Y (Zk (ov Y) (ov Y) (Ze Zk1) Y Y Y (Nat.le_of_ble_eq_true Y) (Zb Y) Y)<|Dd<|K6 7 9 10 37 38 39 Y<|QR [some ⟨80, [[.own 1 y3.length, .own 2 l2.length, .int .i64 copies, .bool frozen2, .bool false, .int .i64 0, .bool false]]⟩, some ⟨60, List.set (List.map O60 y3) i.toNat [.int .i64 x.Slots, .int .i64 x.Limit, .own 3 x.Sectors.length, .own 4 x.Wear.length, .own 5 x.Bad.length]⟩, some ⟨83, List.map R83 l2⟩, some ⟨29, List.map O29 x.Sectors⟩, some ⟨3, List.map R3 x.Wear⟩, some ⟨4, List.map R4 x.Bad⟩, some ⟨60, [[.int .i64 x.Slots, .int .i64 x.Limit, .own 3 x.Sectors.length, .own 4 x.Wear.length, .own 5 x.Bad.length]]⟩, some ⟨83, [[.int .i64 y4.sector, .int .i64 y4.slot]]⟩] Y<|Tr<|Rq Y (Zd (ov Y) Y Y Zga)<|Rq Y (Zv (ov Y) Y Y Y tS3 Y)<|R2 ZiE Y<|Za<|K7 7 9 10 37 38 39 59 Y<|If h Y (fun h=>?_) fun h=>?_
     ·
      exact K6 7 9 10 37 38 39 Y<|Tr<|Rq Y (Zd (ov Y) Y Y ZQ)<|Rq Y (Zv (ov Y) Y Y Y QK Y)<|Rq Y (Zd (ov Y) Y Y Zga)<|Rq Y (Zv (ov Y) Y Y Y tS3 Y)<|bE h fun x2 h_x2 h=>Rq Y (QB (ov Y) (ov Y) Qp Y Y h_x2)<|Xz (Ent.focusH (r := 3) (j := 0) (e' := 5) (g := R5) (ys := x2) Y (ZA h_x2).2 Y DR5)<|Rq Y (Zbk (ov Y) Y Y (ZA h_x2).2 Zif Y)<|bE h fun y5 h_y5 h=>Rq Y (Zc2 (ZbP h_y5) (.tuple<|by simp only [List.mem_cons, List.not_mem_nil, or_false, forall_eq_or_imp, forall_eq]; exact ⟨.int, .bool, .bool⟩)<|.cons (ov Y) (View.ownM Y Y D5) .nil)<|Rm Y<|Rq Y (Zm (ov Y) Y)<|Rq Y (Zm (ov Y) Y)<|Rq Y (Zm (ov Y) Y)<|Ra Y<|Ra Y<|Ra Y<|Zf1 [some ⟨80, [[.own 1 y3.length, .own 2 l2.length, .int .i64 copies, .bool frozen2, .bool false, .int .i64 0, .bool false]]⟩, some ⟨60, List.set (List.map O60 y3) i.toNat [.int .i64 x.Slots, .int .i64 x.Limit, .own 3 x.Sectors.length, .own 4 x.Wear.length, .own 5 x.Bad.length]⟩, some ⟨83, List.map R83 l2⟩, some ⟨29, List.set (List.map O29 x.Sectors) y4.sector.toNat [.own 8 x2.length]⟩, some ⟨3, List.map R3 x.Wear⟩, some ⟨4, List.map R4 x.Bad⟩, some ⟨60, [[.int .i64 x.Slots, .int .i64 x.Limit, .own 3 x.Sectors.length, .own 4 x.Wear.length, .own 5 x.Bad.length]]⟩, some ⟨83, [[.int .i64 y4.sector, .int .i64 y4.slot]]⟩, some ⟨5, List.map R5 x2⟩] Y<|Xz (Ent.absorbH (r := 3) (j := 0) (q := 8) Y (ZA h_x2).2 Y Y (List.length_map ..) Y)<|Xz (Ent.closeS (r := 3) Y (ZA h_x2).2 Y)<|Xz (Ent.absorbH (r := 1) (j := 2) (q := 3) Y (ZA h_x).2 Y Y (List.length_map ..) Y)<|Xz (Ent.absorbH (r := 1) (j := 3) (q := 4) Y (ZA h_x).2 Y Y (List.length_map ..) Y)<|Xz (Ent.absorbH (r := 1) (j := 4) (q := 5) Y (ZA h_x).2 Y Y (List.length_map ..) Y)<|Xz (Ent.closeS (r := 1) Y (ZA h_x).2 Y)<|Za<|K5 7 12 37 38 39 Y<|QR [some ⟨80, [[.own 1 y3.length, .own 2 l2.length, .int .i64 copies, .bool frozen2, .bool false, .int .i64 0, .bool false]]⟩, some ⟨60, List.map O60 y3⟩, some ⟨83, List.map R83 l2⟩, none, none, none, some ⟨60, [[.int .i64 x.Slots, .int .i64 x.Limit, .own 3 x.Sectors.length, .own 4 x.Wear.length, .own 5 x.Bad.length]]⟩, some ⟨83, [[.int .i64 y4.sector, .int .i64 y4.slot]]⟩, none] Y<|Zr<|Rm Y<|Rm Y<|Rq Y (Zy (ov Y) Y Y)<|Rq Y (Zd (ov Y) Y Y ZkK)<|Rq Y (Zv (ov Y) Y Y Y tS4 Y)<|Rm Y<|Rq Y (.guarded (frozen2 == false) Y Y Y Y fun h => Zc<|ov Y)<|Rq Y (Zgw (ov Y) fun hp=>ow Y<|gF hp)<|Rq Y (Zy (ov Y) Y Y)<|Rq Y (Zd (ov Y) Y Y ZkK)<|Rx Y (Zk (ov Y) (ov Y) (Ze tS4) Y Y Y (Nat.le_of_ble_eq_true Y) (Zb Y) Y)<|Za<|K4 7 37 38 39 Y<|QR [some ⟨80, [[.own 1 y3.length, .own 2 l2.length, .int .i64 copies, .bool (frozen2 || y5.2.1), .bool false, .int .i64 0, .bool false]]⟩, some ⟨60, List.map O60 y3⟩, some ⟨83, List.map R83 l2⟩, none, none, none, some ⟨60, [[.int .i64 x.Slots, .int .i64 x.Limit, .own 3 x.Sectors.length, .own 4 x.Wear.length, .own 5 x.Bad.length]]⟩, some ⟨83, [[.int .i64 y4.sector, .int .i64 y4.slot]]⟩, none] Y<|Zr<|R2 ZW Y<|Rm Y<|Za<|⟨_, h, ES [some 0, some 1, some 2] (hhp := .cons Y (ro1 (by exact tZ_80.symm)<|rlc (.own _ Y)<|rlc (.own _ Y)<|rlc (.dat Y)<|rlc (.dat Y)<|rlc (.dat Y)<|rlc (.dat Y)<|rlc (.dat Y) rln)<|.cons Y (roO Q6)<|.cons Y (roM D83) .nil)⟩
     ·
      exact Zh<|K4 7 37 38 39 Y<|Zr<|R2 ZW Y<|Rm Y<|Xz (Ent.absorbH (r := 1) (j := 2) (q := 3) Y (ZA h_x).2 Y Y (List.length_map ..) Y)<|Xz (Ent.absorbH (r := 1) (j := 3) (q := 4) Y (ZA h_x).2 Y Y (List.length_map ..) Y)<|Xz (Ent.absorbH (r := 1) (j := 4) (q := 5) Y (ZA h_x).2 Y Y (List.length_map ..) Y)<|Xz (Ent.closeS (r := 1) Y (ZA h_x).2 Y)<|Za<|⟨_, h, ES [some 0, some 1, some 2] (hhp := .cons Y (ro1 (by exact tZ_80.symm)<|rlc (.own _ Y)<|rlc (.own _ Y)<|rlc (.dat Y)<|rlc (.dat Y)<|rlc (.dat Y)<|rlc (.dat Y)<|rlc (.dat Y) rln)<|.cons Y (roO Q6)<|.cons Y (roM D83) .nil)⟩
    ·
     refine ZM<|?_
     replace h := lx h ▸ ho1
     exact ⟨_, h, ES [some 0, some 1, some 2] (hhp := .cons Y (ro1 (by exact tZ_80.symm)<|rlc (.own _ Y)<|rlc (.own _ Y)<|rlc (.dat Y)<|rlc (.dat Y)<|rlc (.dat Y)<|rlc (.dat Y)<|rlc (.dat Y) rln)<|.cons Y (roO Q6)<|.cons Y (roM D83) .nil)⟩
   ·
    refine Tr<|Rm Y<|Ra Y<|Ra Y<|Za<|?_
    obtain rfl := rt h
    exact Zp<|Za2 [some 0, some 1, some 2] Y (.cons (.tmp Y)<|.cons (.tmp Y) .nil) (.cons Y (ro1 (by exact tZ_80.symm)<|rlc (.own _ Y)<|rlc (.own _ Y)<|rlc (.dat Y)<|rlc (.dat Y)<|rlc (.dat Y)<|rlc (.dat Y)<|rlc (.dat Y) rln)<|.cons Y (roO Q6)<|.cons Y (roM D83) .nil) Y Y<|Xa<|rlc (.ptr _ _ _ Y)<|rlc (.dat Y) rln
theorem ZdC {l : List api_Memory} {copies : Int} {r : Int} (h : Js l copies = some (.inl r)) :
    GSpec Tryd.prog gl0 13 [.sl 60 (List.map R60 l), .int .i64 copies] [] (.tuple [.lit (.pointer none), .int .i64 r]) [] := Zfu h
theorem Zdz {l : List api_Memory} {copies : Int} {r : ring_Recorder × Int} (h : Js l copies = some (.inr r)) :
    GSpec Tryd.prog gl0 13 [.sl 60 (List.map R60 l), .int .i64 copies] [] (.tuple [.ptr 0 1 0 0, .int .i64 r.2]) [some ⟨80, [[.own 1 r.1.bank.memories.length, .own 2 r.1.bank.spots.length, .int .i64 r.1.copies, .bool r.1.frozen, .bool r.1.stopped, .int .i64 r.1.last, .bool r.1.some_]]⟩, some ⟨60, List.map O60 r.1.bank.memories⟩, some ⟨83, List.map R83 r.1.bank.spots⟩] := Zfu h
theorem Zln {n : Int} {r : Bool} (h : Zcp n = some r) :
 CSpec Tryd.prog gl0 81 [.int .i64 n] (.bool r) := by
 unfold Zcp at h
 replace h := QO h
 refine So Tryd.func81 Y fun w0 A=>Tr<|Ra Y<|Za<|K1 0 Y<|Tr<|Ra Y<|Za<|I1 (fun ones=>⟨[(3, .int .i64 ones)], []⟩) h (fun h=>?_) fun ones h=>?_
 ·
  refine Zf<|?_
  obtain ⟨r1, hl1, ho1⟩ := Xk h
  refine L2 (fun n2 ones2=>⟨[(0, .int .i64 n2), (3, .int .i64 ones2)], []⟩) hl1 (ES []) fun n1 n2 ones2 h=>?_
  unfold Zeq at h
  refine Zg<|Tr<|Rm Y<|R2 Zc4 Y<|Za<|K3 0 3 5 Y<|If h Y (fun h=>?_) fun h=>?_
  ·
   exact Zh<|Zg<|Zf<|K2 0 3 Y<|Zr<|Rm Y<|Rm Y<|bE h fun q h_q h=>Rq Y (Za8 (ov Y) (ov Y) h_q)<|R2 ZW Y<|Ra Y<|Za<|K2 0 3 Y<|Zr<|Rm Y<|bE h fun q2 h_q2 h=>Rq Y (Zg0 (ov Y) (ov Y) h_q2)<|Ra Y<|Za<|⟨_, h, ES []⟩
  ·
   refine ZM<|?_
   replace h := lx h ▸ ho1
   exact ⟨_, h, ES []⟩
 ·
  refine Tr<|Rm Y<|bE h fun q3 h_q3 h=>Rq Y (Za8 (ov Y) (ov Y) h_q3)<|R2 Zdg Y<|Ra Y<|Za<|?_
  obtain rfl := rt h
  exact Zp (Z5 Y (.one<|rb Y))
theorem ZdL {data : Int} {r : Int} (h : ZbJ data = some r) :
 CSpec Tryd.prog gl0 65 [.int .i64 data] (.int .i64 r) := by
 unfold ZbJ at h
 replace h := QO h
 refine So Tryd.func65 Y fun w0 A=>Tr<|Ra Y<|Za<|Zg<|K1 0 Y<|Tr<|Rm Y<|bE h fun y h_y h=>Rq Y (Zt (Zln h_y)<|.cons (ov Y) (.b Y) .nil)<|Za<|K2 0 4 Y<|If h Y (fun h=>?_) fun h=>?_
 ·
  refine K1 0 Y<|Tr<|Rm Y<|Ra Y<|Za<|?_
  obtain rfl := rt h
  exact Zp (Z5 Y (.one<|rb Y))
 ·
  refine Zh<|K1 0 Y<|Tr<|Rm Y<|R2 ZW Y<|Ra Y<|Za<|?_
  obtain rfl := rt h
  exact Zp (Z5 Y (.one<|rb Y))
theorem Zid {f : Vector Int 64} {r : Int} (h : XF f = some r) :
 CSpec Tryd.prog gl0 67 [.agg (List.map C42 f.toList)] (.int .i64 r) := by
 unfold XF at h
 replace h := QO h
 refine So Tryd.func67 Y fun w0 A=>Tr<|Rq Y (Zdm (cva<|ov Y) arL tZ_44<|arD fun _ => Y)<|Ra Y<|Za<|K2 1 2 Y<|Tr<|bE h fun x h_x h=>Rq Y (Xw (ov Y) (ov Y) Zbh h_x)<|Rq Y (Zi (ov Y) Zb6<|QF<|Jh (o := 0) (o' := ((Int.toNat 1) * 1)) (Zu arL)<|Jo h_x)<|Rq Y (Qx (ov Y) Zeg tI3 Y)<|bE h fun q h_q h=>Rq Y (Za8 (ov Y) (ov Y) h_q)<|bE h fun x2 h_x2 h=>Rq Y (Xw (ov Y) (ov Y) Zbh h_x2)<|Rq Y (Zi (ov Y) Zb6<|QF<|Jh (o := 0) (o' := ((Int.toNat 2) * 1)) (Zu arL)<|Jo h_x2)<|Rq Y (Qx (ov Y) Zeg tI3 Y)<|bE h fun q2 h_q2 h=>Rq Y (Za8 (ov Y) (ov Y) h_q2)<|R2 Zhd Y<|R2 ZW Y<|Ra Y<|Za<|?_
 obtain rfl := rt h
 exact Zp (Z5 Y (.one<|rb Y))
theorem Zjk {number : Int} {r : Int} (h : Zak number = some r) :
 CSpec Tryd.prog gl0 66 [.int .i64 number] (.int .i64 r) := by
 unfold Zak at h
 replace h := QO h
 refine So Tryd.func66 Y fun w0 A=>Tr<|Ra Y<|Za<|Tr<|R_q (.agg<|List.map C3 (#v[583, 1464, 2631, 3512] : Vector Int 4).toList) Y (ZeP (ys := [_, _, _, _]) ZpP Zq1 (.cons (cvs (ov Y)<|Zn Y)<|.cons (cvs (ov Y)<|Zn Y)<|.cons (cvs (ov Y)<|Zn Y)<|.cons (cvs (ov Y)<|Zn Y) .nil) Y)<|Rm Y<|bE h fun q h_q h=>Rq Y (Za8 (ov Y) (ov Y) h_q)<|bE h fun x h_x h=>Rq Y (Zj8 (ov Y) (ov Y) ZpP tS3 h_x)<|Ra Y<|Za<|?_
 obtain rfl := rt h
 exact Zp (Z5 Y (.one<|rb Y))
theorem Zk2 {f : Vector Int 64} {r : Int} (h : Zc3 f = some r) :
 CSpec Tryd.prog gl0 68 [.agg (List.map C42 f.toList)] (.int .i64 r) := by
 unfold Zc3 at h
 replace h := QO h
 refine So Tryd.func68 Y fun w0 A=>Tr<|Rq Y (Zdm (cva<|ov Y) arL tZ_44<|arD fun _ => Y)<|Ra Y<|Za<|K1 1 Y<|Tr<|Ra Y<|Za<|I1 (fun x=>⟨[(3, .int .i64 x)], []⟩) h (fun h=>?_) fun x h=>?_
 ·
  refine Tr<|Ra Y<|Za<|Zf<|?_
  obtain ⟨r1, hl1, ho1⟩ := Xk h
  refine L2 (fun x2 i=>⟨[(1, .rp (List.map C42 f.toList) 0), (3, .int .i64 x2), (4, .int .i64 i)], []⟩) hl1 (ES []) fun n1 x2 i h=>?_
  unfold ZaM at h
  refine Zg<|Tr<|Rm Y<|R2 Zkg Y<|Za<|K4 1 3 4 6 Y<|If h Y (fun h=>?_) fun h=>?_
  ·
   exact Zh<|Zg<|Zf<|K3 1 3 4 Y<|Zr<|Rm Y<|Rm Y<|bE h fun x3 h_x3 h=>Rq Y (Xw (ov Y) (ov Y) Zbh h_x3)<|Rq Y (Zi (ov Y) Zb6<|QF<|Jh (o := 0) (o' := (i.toNat * 1)) (Zu arL)<|Jo h_x3)<|Rq Y (Qx (ov Y) Zeg tI3 Y)<|bE h fun q h_q h=>Rq Y (Za8 (ov Y) (ov Y) h_q)<|R2 Zkp Y<|Ra Y<|Za<|K3 1 3 4 Y<|Zr<|Rm Y<|R2 ZW Y<|Ra Y<|Za<|⟨_, h, ES []⟩
  ·
   refine ZM<|?_
   replace h := lx h ▸ ho1
   exact ⟨_, h, ES []⟩
 ·
  refine Tr<|Rm Y<|Ra Y<|Za<|?_
  obtain rfl := rt h
  exact Zp (Z5 Y (.one<|rb Y))
theorem Zj4 {f : Vector Int 64} {r : Int} (h : ZaV f = some r) :
 CSpec Tryd.prog gl0 82 [.agg (List.map C42 f.toList)] (.int .i64 r) := by
 unfold ZaV at h
 replace h := QO h
 refine So Tryd.func82 Y fun w0 A=>Tr<|Rq Y (Zdm (cva<|ov Y) arL tZ_44<|arD fun _ => Y)<|Ra Y<|Za<|K1 1 Y<|Tr<|Ra Y<|Za<|I1 (fun rest=>⟨[(3, .int .i64 rest)], []⟩) h (fun h=>?_) fun rest h=>?_
 ·
  refine Tr<|Ra Y<|Za<|Zf<|?_
  obtain ⟨r1, hl1, ho1⟩ := Xk h
  refine L2 (fun rest2 i=>⟨[(1, .rp (List.map C42 f.toList) 0), (3, .int .i64 rest2), (4, .int .i64 i)], []⟩) hl1 (ES []) fun n1 rest2 i h=>?_
  unfold JM at h
  refine Zg<|Tr<|Rm Y<|R2 ZU Y<|Za<|K4 1 3 4 7 Y<|If h Y (fun h=>?_) fun h=>?_
  ·
   refine Zh<|Zg<|Zf<|K3 1 3 4 Y<|Tr<|Ra Y<|Za<|I1 (fun bit=>⟨[(1, .rp (List.map C42 f.toList) 0), (3, .int .i64 rest2), (4, .int .i64 i), (5, .int .i64 bit)], []⟩) h (fun h=>?_) fun bit h=>?_
   ·
    refine Tr<|Rm Y<|R2 ZU Y<|Za<|K5 1 3 4 5 11 Y<|If h Y (fun h=>?_) fun h=>?_
    ·
     exact K4 1 3 4 5 Y<|Zr<|Rm Y<|bE h fun q h_q h=>Rq Y (Zg0 (ov Y) (ov Y) h_q)<|bE h fun x h_x h=>Rq Y (Xw (ov Y) (ov Y) Zbh h_x)<|Rq Y (Zi (ov Y) Zb6<|QF<|Jh (o := 0) (o' := (q.toNat * 1)) (Zu arL)<|Jo h_x)<|Rq Y (Qx (ov Y) Zeg tI3 Y)<|Rm Y<|bE h fun q2 h_q2 h=>Rq Y (Za8 (ov Y) (ov Y) h_q2)<|R2 Zcq Y<|bE h fun q3 h_q3 h=>Rq Y (Zbb (ov Y) (ov Y) h_q3)<|R2 Zbv Y<|Ra Y<|Za<|⟨_, h, ES []⟩
    ·
     exact Zh<|⟨_, h, ES []⟩
   ·
    refine Tr<|Rm Y<|R2 Zhd Y<|Rm Y<|R2 ZW Y<|Ra Y<|Za<|K3 1 3 4 Y<|Tr<|Rm Y<|R2 ZiE Y<|Za<|K4 1 3 4 27 Y<|If h Y (fun h=>?_) fun h=>?_
    ·
     exact K3 1 3 4 Y<|Zr<|Rm Y<|R2 Zkp Y<|Ra Y<|Za<|K3 1 3 4 Y<|Zr<|Rm Y<|R2 ZW Y<|Ra Y<|Za<|⟨_, h, ES []⟩
    ·
     exact Zh<|K3 1 3 4 Y<|Zr<|Rm Y<|R2 ZW Y<|Ra Y<|Za<|⟨_, h, ES []⟩
  ·
   refine ZM<|?_
   replace h := lx h ▸ ho1
   exact ⟨_, h, ES []⟩
 ·
  refine Tr<|Rm Y<|Ra Y<|Za<|?_
  obtain rfl := rt h
  exact Zp (Z5 Y (.one<|rb Y))
theorem ZiW {f : Vector Int 64} {r : (Vector Int 64)} (h : Zb2 f = some r) :
 CSpec Tryd.prog gl0 69 [.agg (List.map C42 f.toList)] (.agg (List.map C42 r.toList)) := by
 unfold Zb2 at h
 replace h := QO h
 refine So Tryd.func69 Y fun w0 A=>Tr<|Rx Y (ZmC 0 Y (ov Y) JQ arL)<|Rx Y (Qd (row := (List.map C42 (Vector.replicate 64 0).toList)) 1 Y ZhN Y tZ_44)<|Za<|K2 1 2 Y<|Tr<|Rq Y (QC (ov Y) Y Y Y JQ (Qo<|Zu arL) arL (hns := (nsM fun _ => Y)))<|bE h fun y h_y h=>Rq Y (Zt (Zj4 h_y)<|.cons (ov Y) (.aggB<|arD fun _ => Y) .nil)<|Ra Y<|Za<|K3 1 2 3 Y<|Tr<|Rm Y<|bE h fun q h_q h=>Rq Y (Zg0 (ov Y) (ov Y) h_q)<|bE h fun y2 h_y2 h=>Rq Y (Zt (ZdL h_y2)<|.cons (ov Y) (.b Y) .nil)<|Rq Y (Qx (ov Y) tI3 Zeg Y)<|Rm Y<|bE h fun q2 h_q2 h=>Rq Y (Za8 (ov Y) (ov Y) h_q2)<|bE h fun y3 h_y3 h=>Rq Y (Zt (ZdL h_y3)<|.cons (ov Y) (.b Y) .nil)<|Rq Y (Qx (ov Y) tI3 Zeg Y)<|bE h fun x h_x h=>Rq Y (ZaC (ov Y) (ov Y) Zbh Y Y h_x)<|Rx Y (Zk (ov Y) (ov Y) (Ze Zb6) Y Y Y (arB h_x) (Zb Y)<|arS h_x)<|bE h fun x2 h_x2 h=>Rq Y (ZaC (ov Y) (ov Y) Zbh Y Y h_x2)<|Rx Y (Zk (ov Y) (ov Y) (Ze Zb6) Y Y Y (arB h_x2) (Zb Y)<|arS h_x2)<|Za<|K2 1 2 Y<|Tr<|Rq Y (QC (ov Y) Y Y Y JQ (Qo<|Zu arL) arL (hns := (nsM fun _ => Y)))<|Rx Y (Zk (ov Y) (ov Y) (ZB JQ arL) Y Y Y (Zan (Zu arL) arL) (Zb<|arC fun _ => Y)<|Jc<|Eq.trans arL<|Eq.symm arL)<|Za<|?_
 obtain rfl := rt h
 exact Zp (Z5 Y (.one<|.agg Y Y Y Y JQ (Qo<|Zu arL) arL (pwB<|arD fun _ => Y) (hns := (nsM fun _ => Y))))
theorem ZjI {f : Vector Int 64} {r : (Vector Int 64)} (h : Zc8 f = some r) :
 CSpec Tryd.prog gl0 40 [.agg (List.map C42 f.toList)] (.agg (List.map C42 r.toList)) := by
 unfold Zc8 at h
 replace h := QO h
 refine So Tryd.func40 Y fun w0 A=>Tr<|Rx Y (ZmC 0 Y (ov Y) JQ arL)<|Rx Y (Qd (row := (List.map C42 (Vector.replicate 64 0).toList)) 1 Y ZhN Y tZ_44)<|Za<|I1 (fun f2=>⟨[(1, .ptr 0 1 0 0), (2, .ptr 1 1 0 0)], [some ⟨44, [(List.map C42 f2.toList)]⟩, some ⟨44, [(List.map C42 (Vector.replicate 64 0).toList)]⟩]⟩) h (fun h=>?_) fun f2 h=>?_
 ·
  refine K2 1 2 Y<|Tr<|Ra Y<|Za<|Zf<|?_
  obtain ⟨r1, hl1, ho1⟩ := Xk h
  refine L2 (fun f3 i=>⟨[(1, .ptr 0 1 0 0), (2, .ptr 1 1 0 0), (3, .int .i64 i)], [some ⟨44, [(List.map C42 f3.toList)]⟩, some ⟨44, [(List.map C42 (Vector.replicate 64 0).toList)]⟩]⟩) hl1 (ES [some 0, some 1]) fun n1 f3 i h=>?_
  unfold Zcn at h
  refine Zg<|Tr<|Rm Y<|R2 Zkg Y<|Za<|K4 1 2 3 5 Y<|If h Y (fun h=>?_) fun h=>?_
  ·
   exact Zh<|Zg<|Zf<|K3 1 2 3 Y<|Zr<|Rm Y<|Rm Y<|bE h fun x h_x h=>Rq Y (ZaC (ov Y) (ov Y) Zbh Y Y h_x)<|Rq Y (Zv (ov Y) Y Y Y Zb6<|QF<|Jh (o := 0) (o' := (i.toNat * 1)) (Zu arL)<|Jo h_x)<|Rq Y (Qx (ov Y) Zeg tI3 Y)<|bE h fun q h_q h=>Rq Y (Za8 (ov Y) (ov Y) h_q)<|bE h fun y h_y h=>Rq Y (Zt (ZdL h_y)<|.cons (ov Y) (.b Y) .nil)<|Rq Y (Qx (ov Y) tI3 Zeg Y)<|bE h fun x2 h_x2 h=>Rq Y (ZaC (ov Y) (ov Y) Zbh Y Y h_x2)<|Rx Y (Zk (ov Y) (ov Y) (Ze Zb6) Y Y Y (arB h_x2) (Zb Y)<|arS h_x2)<|Za<|K3 1 2 3 Y<|Zr<|Rm Y<|R2 ZW Y<|Ra Y<|Za<|⟨_, h, ES [some 0, some 1]⟩
  ·
   refine ZM<|?_
   replace h := lx h ▸ ho1
   exact ⟨_, h, ES [some 0, some 1]⟩
 ·
  refine Tr<|Rq Y (QC (ov Y) Y Y Y JQ (Qo<|Zu arL) arL (hns := (nsM fun _ => Y)))<|bE h fun y2 h_y2 h=>Rq Y (Zt (Zid h_y2)<|.cons (ov Y) (.aggB<|arD fun _ => Y) .nil)<|bE h fun y3 h_y3 h=>Rq Y (Zt (Zjk h_y3)<|.cons (ov Y) (.b Y) .nil)<|Rq Y (Qx (ov Y) tI3 Zeg Y)<|bE h fun x3 h_x3 h=>Rq Y (ZaC (ov Y) (ov Y) Zbh Y Y h_x3)<|Rx Y (Zk (ov Y) (ov Y) (Ze Zb6) Y Y Y (arB h_x3) (Zb Y)<|arS h_x3)<|Za<|K2 1 2 Y<|Tr<|Rq Y (QC (ov Y) Y Y Y JQ (Qo<|Zu arL) arL (hns := (nsM fun _ => Y)))<|bE h fun y4 h_y4 h=>Rq Y (Zt (Zk2 h_y4)<|.cons (ov Y) (.aggB<|arD fun _ => Y) .nil)<|bE h fun y5 h_y5 h=>Rq Y (Zt (ZdL h_y5)<|.cons (ov Y) (.b Y) .nil)<|Rq Y (Qx (ov Y) tI3 Zeg Y)<|bE h fun x4 h_x4 h=>Rq Y (ZaC (ov Y) (ov Y) Zbh Y Y h_x4)<|Rx Y (Zk (ov Y) (ov Y) (Ze Zb6) Y Y Y (arB h_x4) (Zb Y)<|arS h_x4)<|Za<|K2 1 2 Y<|Tr<|Rq Y (QC (ov Y) Y Y Y JQ (Qo<|Zu arL) arL (hns := (nsM fun _ => Y)))<|bE h fun y6 h_y6 h=>Rq Y (Zt (ZiW h_y6)<|.cons (ov Y) (.aggB<|arD fun _ => Y) .nil)<|Rx Y (Zk (ov Y) (ov Y) (ZB JQ arL) Y Y Y (Zan (Zu arL) arL) (Zb<|arC fun _ => Y)<|Jc<|Eq.trans arL<|Eq.symm arL)<|Za<|?_
  obtain rfl := rt h
  exact Zp (Z5 Y (.one<|.agg Y Y Y Y JQ (Qo<|Zu arL) arL (pwB<|arD fun _ => Y) (hns := (nsM fun _ => Y))))
theorem Zll {number : Int} {data : List Int} {r : (Vector Int 64) × Int} (h : ZfW number data = some r) :
 CSpec Tryd.prog gl0 21 [.int .i64 number, .sl 3 (List.map R3 data)] (.tuple [.agg (List.map C42 r.1.toList), .int .i64 r.2]) := by
 unfold ZfW at h
 replace h := QO h
 refine So Tryd.func21 Y fun w0 A=>Tr<|Rx Y (Qd (row := (List.map C42 (Vector.replicate 64 0).toList)) 0 Y ZhN Y tZ_44)<|Ra Y<|Za<|Zg<|K3 0 1 4 Y<|Tr<|Rm Y<|R2 ZU Y<|Rm Y<|Rq Y (.guarded ((decide (number < 0)) == false) Y Y Y Y fun h => Zc<|ov Y)<|Rq Y (.guarded ((decide (number < 0)) == false) Y Y Y Y fun h => ZiE (ow Y h)<|ov Y)<|Rq Y (Zgw (ov Y) fun hp=>ow Y<|gF hp)<|Za<|K4 0 1 4 14 Y<|If h Y (fun h=>?_) fun h=>?_
 ·
  refine K1 4 Y<|Tr<|R_q (.agg<|List.map C42 (#v[0, 0, 0, 0, 0, 0, 0, 0, 0, 0, 0, 0, 0, 0, 0, 0, 0, 0, 0, 0, 0, 0, 0, 0, 0, 0, 0, 0, 0, 0, 0, 0, 0, 0, 0, 0, 0, 0, 0, 0, 0, 0, 0, 0, 0, 0, 0, 0, 0, 0, 0, 0, 0, 0, 0, 0, 0, 0, 0, 0, 0, 0, 0, 0] : Vector Int 64).toList) Y (ZeP (ys := [_, _, _, _, _, _, _, _, _, _, _, _, _, _, _, _, _, _, _, _, _, _, _, _, _, _, _, _, _, _, _, _, _, _, _, _, _, _, _, _, _, _, _, _, _, _, _, _, _, _, _, _, _, _, _, _, _, _, _, _, _, _, _, _]) Zbh ZhN .nil Y)<|Rx Y (Zk (ov Y) (ov Y) (ZB JQ arL) Y Y Y (Zan (Zu arL) arL) (Zb<|arC fun _ => Y)<|Jc<|Eq.trans arL<|Eq.symm arL)<|Ra Y<|Za<|?_
  obtain rfl := rt h
  exact Zp (Z5 Y (.two (.agg Y Y Y Y JQ (Qo<|Zu arL) arL (pwB<|arD fun _ => Y) (hns := (nsM fun _ => Y)))<|rb Y))
 ·
  refine Zh<|Zg<|K3 0 1 4 Y<|Tr<|Rm Y<|Rl tZ_3 Xg Y<|R2 Jw Y<|Za<|K4 0 1 4 18 Y<|If h Y (fun h=>?_) fun h=>?_
  ·
   refine K1 4 Y<|Tr<|R_q (.agg<|List.map C42 (#v[0, 0, 0, 0, 0, 0, 0, 0, 0, 0, 0, 0, 0, 0, 0, 0, 0, 0, 0, 0, 0, 0, 0, 0, 0, 0, 0, 0, 0, 0, 0, 0, 0, 0, 0, 0, 0, 0, 0, 0, 0, 0, 0, 0, 0, 0, 0, 0, 0, 0, 0, 0, 0, 0, 0, 0, 0, 0, 0, 0, 0, 0, 0, 0] : Vector Int 64).toList) Y (ZeP (ys := [_, _, _, _, _, _, _, _, _, _, _, _, _, _, _, _, _, _, _, _, _, _, _, _, _, _, _, _, _, _, _, _, _, _, _, _, _, _, _, _, _, _, _, _, _, _, _, _, _, _, _, _, _, _, _, _, _, _, _, _, _, _, _, _]) Zbh ZhN .nil Y)<|Rx Y (Zk (ov Y) (ov Y) (ZB JQ arL) Y Y Y (Zan (Zu arL) arL) (Zb<|arC fun _ => Y)<|Jc<|Eq.trans arL<|Eq.symm arL)<|Ra Y<|Za<|?_
   obtain rfl := rt h
   exact Zp (Z5 Y (.two (.agg Y Y Y Y JQ (Qo<|Zu arL) arL (pwB<|arD fun _ => Y) (hns := (nsM fun _ => Y)))<|rb Y))
  ·
   refine Zh<|K3 0 1 4 Y<|Tr<|R_q (.agg<|List.map C42 (#v[0, 0, 0, 0, 0, 0, 0, 0, 0, 0, 0, 0, 0, 0, 0, 0, 0, 0, 0, 0, 0, 0, 0, 0, 0, 0, 0, 0, 0, 0, 0, 0, 0, 0, 0, 0, 0, 0, 0, 0, 0, 0, 0, 0, 0, 0, 0, 0, 0, 0, 0, 0, 0, 0, 0, 0, 0, 0, 0, 0, 0, 0, 0, 0] : Vector Int 64).toList) Y (ZeP (ys := [_, _, _, _, _, _, _, _, _, _, _, _, _, _, _, _, _, _, _, _, _, _, _, _, _, _, _, _, _, _, _, _, _, _, _, _, _, _, _, _, _, _, _, _, _, _, _, _, _, _, _, _, _, _, _, _, _, _, _, _, _, _, _, _]) Zbh ZhN .nil Y)<|Rx Y (Qd (row := (List.map C42 (Vector.replicate 64 0).toList)) 1 Y ZhN Y tZ_44)<|Rx Y (Zk (ov Y) (ov Y) (ZB JQ arL) Y Y Y (Zan (Zu arL) arL) (Zb<|arC fun _ => Y)<|Jc<|Eq.trans arL<|Eq.symm arL)<|Za<|K4 0 1 4 6 Y<|Tr<|Rm Y<|bE h fun q h_q h=>Rq Y (Za8 (ov Y) (ov Y) h_q)<|Rq Y (Qx (ov Y) tI3 Zeg Y)<|Rm Y<|bE h fun q2 h_q2 h=>Rq Y (Zg0 (ov Y) (ov Y) h_q2)<|Rq Y (Qx (ov Y) tI3 Zeg Y)<|bE h fun x h_x h=>Rq Y (ZaC (ov Y) (ov Y) Zbh Y Y h_x)<|Rx Y (Zk (ov Y) (ov Y) (Ze Zb6) Y Y Y (arB h_x) (Zb Y)<|arS h_x)<|bE h fun x2 h_x2 h=>Rq Y (ZaC (ov Y) (ov Y) Zbh Y Y h_x2)<|Rx Y (Zk (ov Y) (ov Y) (Ze Zb6) Y Y Y (arB h_x2) (Zb Y)<|arS h_x2)<|Za<|J1 (fun j => (.inr j)) (fun f=>⟨[(4, .ptr 0 1 0 0), (6, .ptr 1 1 0 0)], [some ⟨44, [(List.map C42 (Vector.replicate 64 0).toList)]⟩, some ⟨44, [(List.map C42 f.toList)]⟩]⟩) h (fun h=>?_) fun f h=>?_
   ·
    refine K3 1 4 6 Y<|Tr<|Rm Y<|Rl tZ_3 Xg Y<|Rm Y<|Za<|Zf<|?_
    obtain ⟨r1, hl1, ho1⟩ := Xk h
    refine L2 (fun f2 i=>⟨[(4, .ptr 0 1 0 0), (6, .ptr 1 1 0 0), (29, .sl 3 (List.map R3 data)), (30, .int .i64 (data.length : Int)), (31, .int .i64 i)], [some ⟨44, [(List.map C42 (Vector.replicate 64 0).toList)]⟩, some ⟨44, [(List.map C42 f2.toList)]⟩]⟩) hl1 (ES [some 0, some 1]) fun n1 f2 i h=>?_
    unfold Zem at h
    refine Tr<|R2 ZU Y<|Za<|Zg<|If h Y (fun h=>?_) fun h=>?_
    ·
     refine Zh<|Zg<|Zf<|K5 4 6 29 30 31 Y<|Tr<|Rm Y<|bE h fun x3 h_x3 h=>Rq Y (Qz (ov Y) (ov Y) Xg h_x3)<|Rq Y (Zi (ov Y) tS3 Y)<|Ra Y<|Ra Y<|Za<|Zg<|K7 4 6 7 8 29 30 31 Y<|Tr<|Rm Y<|R2 ZU Y<|Rm Y<|Rq Y (.guarded ((decide (x3 < 0)) == false) Y Y Y Y fun h => Zc<|ov Y)<|Rq Y (.guarded ((decide (x3 < 0)) == false) Y Y Y Y fun h => Zc4 (ow Y h)<|ov Y)<|Rq Y (Zgw (ov Y) fun hp=>ow Y<|gF hp)<|Za<|K8 4 6 7 8 29 30 31 41 Y<|If h Y (fun h=>?_) fun h=>?_
     ·
      refine K1 4 Y<|Tr<|R_q (.agg<|List.map C42 (#v[0, 0, 0, 0, 0, 0, 0, 0, 0, 0, 0, 0, 0, 0, 0, 0, 0, 0, 0, 0, 0, 0, 0, 0, 0, 0, 0, 0, 0, 0, 0, 0, 0, 0, 0, 0, 0, 0, 0, 0, 0, 0, 0, 0, 0, 0, 0, 0, 0, 0, 0, 0, 0, 0, 0, 0, 0, 0, 0, 0, 0, 0, 0, 0] : Vector Int 64).toList) Y (ZeP (ys := [_, _, _, _, _, _, _, _, _, _, _, _, _, _, _, _, _, _, _, _, _, _, _, _, _, _, _, _, _, _, _, _, _, _, _, _, _, _, _, _, _, _, _, _, _, _, _, _, _, _, _, _, _, _, _, _, _, _, _, _, _, _, _, _]) Zbh ZhN .nil Y)<|Rx Y (Zk (ov Y) (ov Y) (ZB JQ arL) Y Y Y (Zan (Zu arL) arL) (Zb<|arC fun _ => Y)<|Jc<|Eq.trans arL<|Eq.symm arL)<|Ra Y<|Za<|?_
      replace h := lx h ▸ ho1
      obtain rfl := rt h
      exact Zp (Z5 Y (.two (.agg Y Y Y Y JQ (Qo<|Zu arL) arL (pwB<|arD fun _ => Y) (hns := (nsM fun _ => Y)))<|rb Y))
     ·
      exact Zh<|K7 4 6 7 8 29 30 31 Y<|Zr<|Rm Y<|R2 ZW Y<|Rm Y<|Rq Y (Qx (ov Y) tI3 Zeg Y)<|bE h fun x4 h_x4 h=>Rq Y (ZaC (ov Y) (ov Y) Zbh Y Y h_x4)<|Rx Y (Zk (ov Y) (ov Y) (Ze Zb6) Y Y Y (arB h_x4) (Zb Y)<|arS h_x4)<|Za<|K5 4 6 29 30 31 Y<|Zr<|R2 ZW Y<|Rm Y<|Za<|⟨_, h, ES [some 0, some 1]⟩
    ·
     refine ZM<|?_
     replace h := lx h ▸ ho1
     exact ⟨_, h, ES [some 0, some 1]⟩
   ·
    replace h := elr h
    replace h := t1i h
    refine Tr<|Rq Y (QC (ov Y) Y Y Y JQ (Qo<|Zu arL) arL (hns := (nsM fun _ => Y)))<|bE h fun y h_y h=>Rq Y (Zt (ZjI h_y)<|.cons (ov Y) (.aggB<|arD fun _ => Y) .nil)<|Rx Y (Zk (ov Y) (ov Y) (ZB JQ arL) Y Y Y (Zan (Zu arL) arL) (Zb<|arC fun _ => Y)<|Jc<|Eq.trans arL<|Eq.symm arL)<|Ra Y<|Za<|?_
    obtain rfl := rt h
    exact Zp (Z5 Y (.two (.agg Y Y Y Y JQ (Qo<|Zu arL) arL (pwB<|arD fun _ => Y) (hns := (nsM fun _ => Y)))<|rb Y))
theorem ZjW {x : Int} {y : Int} {r : Int × Int} (h : Zd0 x y = some r) :
 CSpec Tryd.prog gl0 84 [.int .u64 x, .int .u64 y] (.tuple [.int .u64 r.1, .int .u64 r.2]) := by
 unfold Zd0 at h
 replace h := QO h
 refine So Tryd.func84 Y fun w0 A=>Tr<|Ra Y<|Ra Y<|Za<|K2 0 1 Y<|Tr<|Rm Y<|R2 Zbv Y<|Ra Y<|Za<|K3 0 1 6 Y<|Tr<|Rm Y<|bE h fun q h_q h=>Rq Y (Zbb (ov Y) (ov Y) h_q)<|Ra Y<|Za<|K4 0 1 6 7 Y<|Tr<|Rm Y<|R2 Zbv Y<|Ra Y<|Za<|K5 0 1 6 7 8 Y<|Tr<|Rm Y<|bE h fun q2 h_q2 h=>Rq Y (Zbb (ov Y) (ov Y) h_q2)<|Ra Y<|Za<|K6 0 1 6 7 8 9 Y<|Tr<|Rm Y<|Rm Y<|R2 Zhd Y<|Ra Y<|Za<|K7 0 1 6 7 8 9 10 Y<|Tr<|Rm Y<|Rm Y<|R2 Zhd Y<|Rm Y<|bE h fun q3 h_q3 h=>Rq Y (Zbb (ov Y) (ov Y) h_q3)<|R2 ZW Y<|Ra Y<|Za<|K6 0 1 6 7 9 11 Y<|Tr<|Rm Y<|R2 Zbv Y<|Ra Y<|Za<|K7 0 1 6 7 9 11 12 Y<|Tr<|Rm Y<|bE h fun q4 h_q4 h=>Rq Y (Zbb (ov Y) (ov Y) h_q4)<|Ra Y<|Za<|K7 0 1 6 7 9 12 13 Y<|Tr<|Rm Y<|Rm Y<|Rm Y<|R2 Zhd Y<|R2 ZW Y<|Ra Y<|Za<|K6 0 1 7 9 12 13 Y<|Tr<|Rm Y<|Rm Y<|R2 Zhd Y<|Rm Y<|R2 ZW Y<|Rm Y<|bE h fun q5 h_q5 h=>Rq Y (Zbb (ov Y) (ov Y) h_q5)<|R2 ZW Y<|Ra Y<|Za<|K3 0 1 4 Y<|Tr<|Rm Y<|Rm Y<|R2 Zhd Y<|Ra Y<|Za<|?_
 obtain rfl := rt h
 exact Zp (Z5 Y (.two (rb Y)<|rb Y))
theorem Zlt {x : Int} {y : Int} {r : Int × Int} (h : ZfP x y = some r) :
 CSpec Tryd.prog gl0 70 [.int .u64 x, .int .u64 y] (.tuple [.int .u64 r.1, .int .u64 r.2]) := by
 unfold ZfP at h
 replace h := QO h
 refine So Tryd.func70 Y fun w0 A=>Tr<|Ra Y<|Ra Y<|Za<|Zg<|ZoK<|Zh<|K2 0 1 Y<|Tr<|Rm Y<|Rm Y<|bE h fun y2 h_y2 h=>Rq Y (Zt (ZjW h_y2)<|.cons (ov Y) (.b Y)<|.cons (ov Y) (.b Y) .nil)<|Rm Y<|Rq Y (Zm (ov Y) Y)<|Rq Y (Zm (ov Y) Y)<|Ra Y<|Ra Y<|Za<|K2 8 9 Y<|Tr<|Rm Y<|Rm Y<|Ra Y<|Ra Y<|Za<|?_
 obtain rfl := rt h
 exact Zp (Z5 Y (.two (rb Y)<|rb Y))
theorem Zj {x : List Int} {count : Int} {r : (List Int)} (h : Xe x count = some r) :
 GSpec Tryd.prog gl0 41 [.sl 5 (List.map R5 x), .int .i64 count] [] (.own 0 r.length) [some ⟨5, List.map R5 r⟩] := by
 unfold Xe at h
 replace h := QO h
 refine Q0 (by kernel_rfl) Tryd.func41 Y Y<|?_
 intro w0 A W φ0
 refine Tr<|Ra Y<|Za<|Zg<|K2 0 1 Y<|Tr<|Rm Y<|R2 ZU Y<|Za<|K3 0 1 10 Y<|If h Y (fun h=>?_) fun h=>?_
 ·
  exact (Zkh h).elim
 ·
  refine Zh<|K2 0 1 Y<|Tr<|Rm Y<|Rl tZ_5 Xf Y<|Rq Y (Qx (ov Y) tI3 ZfM Y)<|Rm Y<|Rq Y (Qx (ov Y) tI3 ZfM Y)<|bE h fun y h_y h=>Rq Y (Zt (Zlt h_y)<|.cons (ov Y) (.b Y)<|.cons (ov Y) (.b Y) .nil)<|Rm Y<|Rq Y (Zm (ov Y) Y)<|Rq Y (Zm (ov Y) Y)<|Ra Y<|Ra Y<|Za<|Zg<|K3 0 5 6 Y<|Tr<|Rm Y<|R2 Zc4 Y<|Rm Y<|Rq Y (.guarded ((decide (0 < y.1)) == false) Y Y Y Y fun h => Zc<|ov Y)<|Rq Y (.guarded ((decide (0 < y.1)) == false) Y Y Y Y fun h => Zc4 (ow Y h)<|ov Y)<|Rq Y (Zgw (ov Y) fun hp=>ow Y<|gF hp)<|Za<|K3 0 6 26 Y<|If h Y (fun h=>?_) fun h=>?_
  ·
   exact (Zkh h).elim
  ·
   refine Zh<|K2 0 6 Y<|Tr<|Rm Y<|Rq Y (Qx (ov Y) ZfM tI3 Y)<|bE h fun l h_l h=>Rx Y (Zbp [none] (r := 0) (f := R5) (z0 := 0) Y (ov Y) (ov Y) Xf Y tZ5 Y Y h_l)<|Ra Y<|Za<|K2 0 7 Y<|Tr<|Rm Y<|Rm Y<|Rx Y (Zpt (f := R5) (g := C5) (xs := l) (ys := x) (ov Y) (Je (ov Y) tZ_5) Y Y (fun _=>Y) (fun _=>Y) (fun _=>Y) Xf)<|Ra Y<|Za<|I1 (fun newslice=>⟨[(7, .own 0 newslice.length)], [some ⟨5, List.map R5 newslice⟩]⟩) h (fun h=>?_) fun newslice h=>?_
   ·
    refine Zf<|?_
    obtain ⟨r1, hl1, ho1⟩ := Xk h
    refine L2 (fun newslice2 n=>⟨[(7, .own 0 newslice2.length), (8, .int .i64 n)], [some ⟨5, List.map R5 newslice2⟩]⟩) hl1 (ES [some 0]<|sr 7 Y (Zdl (Eq.symm<|(Zhi ..).trans Y) Y)<|sd 8 Y Y sn) fun n1 newslice2 n h=>?_
    unfold Xo at h
    refine Zg<|Tr<|Rm Y<|Rm Y<|Rq Y (Zfn (ov Y) Y Y Xf)<|R2 ZU Y<|Za<|K3 7 8 37 Y<|If h Y (fun h=>?_) fun h=>?_
    ·
     exact Zh<|Zf<|K2 7 8 Y<|QM (cw := md0) (by kernel_rfl)<|D1 1 Zc Y<|D1 2 Zc Y<|bE h fun u h_u h=>Dq 3 Y (ZpD (ov Y) Y Y Xf (oi<|ov Y) on h_u)<|D1 4 Zc Y<|D1 5 Zc Y<|bE h fun u2 h_u2 h=>Dq 6 Y (ZpD (ov Y) Y Y Xf on (oi<|ov Y) h_u2)<|ZZ 0 _ Y (by kernel_rfl) Y Y (fun hp'=>Zc<|ov Y)<|Do 7 Y (Zo1 (g := C5) (ov Y) (ov Y) Y Y (fun _=>Y) (fun _=>Y) (fun _=>Y) Xf (ZkB h_u)<|ZkB h_u2)<|D2 8 ZW Y<|D1 9 QN Y<|Dd<|⟨_, h, ES [some 0]<|sr 7 Y (Zdl (Eq.symm<|(Zfd (ZkB h_u) (ZkB h_u2)).trans Y) Y)<|sd 8 Y Y sn⟩
    ·
     refine ZM<|?_
     replace h := lx h ▸ ho1
     exact ⟨_, h, ES [some 0]⟩
   ·
    refine Tr<|Rm Y<|Ra Y<|Za<|?_
    obtain rfl := rt h
    exact Zp<|Za2 [some 0] Y (.cons (.tmp Y) .nil) (.cons Y (roM D5) .nil) Y Y<|.own _ Y
theorem ZhC {sectors : Int} {slots : Int} {limit : Int} {r : api_Memory × Int} (h : ZaU sectors slots limit = some r) :
 CSpec Tryd.prog gl0 22 [.int .i64 sectors, .int .i64 slots, .int .i64 limit] (.tuple [.agg [.int .i64 r.1.Slots, .int .i64 r.1.Limit, .sl 29 (List.map R29 r.1.Sectors), .sl 3 (List.map R3 r.1.Wear), .sl 4 (List.map R4 r.1.Bad)], .int .i64 r.2]) := by
 unfold ZaU at h
 replace h := QO h
 refine So Tryd.func22 Y fun w0 A=>Tr<|Rx Y (Qd (row := [_, _, _, _, _]) 0 Y Zex Y tZ_60)<|Ra Y<|Za<|Zg<|K4 0 1 2 6 Y<|Tr<|Rm Y<|bE h fun y h_y h=>Rq Y (Zt (QT h_y)<|.cons (ov Y) (.b Y)<|.cons (ov Y) (.b Y)<|.cons (ov Y) (.b Y) .nil)<|R1 JZ Y<|Rm Y<|Rq Y (.guarded ((!y) == false) Y Y Y Y fun h => Zc<|ov Y)<|bE h fun y2 h_y2 h=>Rq Y (.guarded ((!y) == false) Y Y Y Y fun h => Zt (QT<|gdT h_y2 h)<|.cons (ow Y h) (.b Y)<|.cons (ov Y) (.b Y)<|.cons (ov Y) (.b Y) .nil)<|Rq Y (.guarded ((!y) == false) Y Y Y Y fun h => JZ<|ow Y h)<|Rq Y (Zgw (ov Y) fun hp=>ow Y<|gF hp)<|Rm Y<|Rq Y (.guarded (((!y) || (!y2)) == false) Y Y Y Y fun h => Zc<|ov Y)<|bE h fun y3 h_y3 h=>Rq Y (.guarded (((!y) || (!y2)) == false) Y Y Y Y fun h => Zt (QT<|gdT h_y3 h)<|.cons (ow Y h) (.b Y)<|.cons (ov Y) (.b Y)<|.cons (ov Y) (.b Y) .nil)<|Rq Y (.guarded (((!y) || (!y2)) == false) Y Y Y Y fun h => JZ<|ow Y h)<|Rq Y (Zgw (ov Y) fun hp=>ow Y<|gF hp)<|Za<|K5 0 1 2 6 21 Y<|If h Y (fun h=>?_) fun h=>?_
 ·
  refine K1 6 Y<|Tr<|Rq Y (JE (ys := [_, _, _, _, _]) Zjh Zjn Zex .nil Y)<|Rx Y (Zk (ov Y) (ov Y) (ZB Zay Y) Y Y Y (Nat.le_of_ble_eq_true Y) (Zb Y) Y)<|Ra Y<|Za<|?_
  obtain rfl := rt h
  exact Zp (Z5 Y (.two (.agg Y Y Y Y Zay Y Y<|.cons (Dat.view<|.b Y)<|.cons (Dat.view<|.b Y)<|.cons (View.nils 29)<|.cons (View.nils 3)<|.cons (View.nils 4) .nil)<|rb Y))
 ·
  refine Zh<|I2 (fun Wear Bad=>⟨[(0, .int .i64 sectors), (1, .int .i64 slots), (6, .ptr 0 1 0 0), (8, .ptr 1 1 0 0)], [some ⟨60, [[.int .i64 0, .int .i64 0, .nils, .nils, .nils]]⟩, some ⟨60, [[.int .i64 slots, .int .i64 limit, .nils, .own 2 Wear.length, .own 3 Bad.length]]⟩, some ⟨3, List.map R3 Wear⟩, some ⟨4, List.map R4 Bad⟩]⟩) h (fun h=>?_) fun Wear Bad h=>?_
  ·
   refine K4 0 1 2 6 Y<|QM (cw := md0) (by kernel_rfl)<|ZZ 0 _ Y (by kernel_rfl) Y Y (fun hp'=>Zc<|ov Y)<|ZZ 1 _ Y (by kernel_rfl) Y Y (fun hp'=>Zc<|ov Y)<|ZZ 2 _ Y (by kernel_rfl) Y Y (fun hp'=>Zc<|ov Y)<|ZZ 4 _ Y (by kernel_rfl) Y Y (fun hp'=>Zc<|ov Y)<|bE h fun l h_l h=>bE h fun l2 h_l2 h=>Zmg [3, 5, 7] (by kernel_rfl)<|.w Y Y Y (fun _=>Ext.app) (fun h=>by cases h) (Zbp [none] (r := 1) (f := R3) (z0 := 0) Y (ov Y) (ov Y) Xg Y tZ3 Y Y h_l) ?_<|.w Y Y Y (fun _=>Ext.app) (fun h=>by cases h) (Zbp [none] (r := 1) (f := R4) (z0 := false) Y (ov Y) (ov Y) ZjV Y tZ4 Y Y h_l2) ?_<|.w Y Y Y (fun _=>Ext.app) (fun h=>by cases h) (Qd (row := [_, _, _, _, _]) 1 Y Zex Y tZ_60) ?_ .nil
   ·
    refine ZmL 5 7 Y Y (by kernel_rfl) Y Y Y Y (fun _=>Ext.app) (fun _=>Ext.app) (fun h=>by cases h) (fun h=>by cases h) (Zbp [none] (r := 2) (f := R4) (z0 := false) Y (ov Y) (ov Y) ZjV Y tZ4 Y Y h_l2) (Qd (row := [_, _, _, _, _]) 2 Y Zex Y tZ_60) ?_ ?_
    ·
     exact ZZ 6 _ Y (by kernel_rfl) Y Y (fun hp'=>JE (ys := [_, _, _, _, _]) Zjh Zjn Zex (.cons (cvs (ov Y)<|Zn Y)<|.cons (cvs (ov Y)<|Zn Y)<|.cons (cvs (ov Y)<|Zn Y)<|.cons (cvs (ov Y)<|Zn Y) .nil) Y)<|Zad 7 _ _ Y (by kernel_rfl) Y Y (fun _=>Ext.app) (fun h=>by cases h) (Qd (row := [_, _, _, _, _]) 3 Y Zex Y tZ_60)<|Do 8 Y (Zk (ov Y) (ov Y) (ZB Zay Y) Y Y Y (Nat.le_of_ble_eq_true Y) (Zb Y) Y)<|Dd<|⟨_, h, ES [some 0, some 3, some 1, some 2]⟩
    ·
     exact Zad 5 _ _ Y (by kernel_rfl) Y Y (fun _=>Ext.app) (fun h=>by cases h) (Zbp [none] (r := 3) (f := R4) (z0 := false) Y (ov Y) (ov Y) ZjV Y tZ4 Y Y h_l2)<|Dq 6 Y (JE (ys := [_, _, _, _, _]) Zjh Zjn Zex (.cons (cvs (ov Y)<|Zn Y)<|.cons (cvs (ov Y)<|Zn Y)<|.cons (cvs (ov Y)<|Zn Y)<|.cons (cvs (ov Y)<|Zn Y) .nil) Y)<|Do 8 Y (Zk (ov Y) (ov Y) (ZB Zay Y) Y Y Y (Nat.le_of_ble_eq_true Y) (Zb Y) Y)<|Dd<|⟨_, h, ES [some 0, some 2, some 1, some 3]⟩
   ·
    refine ZmL 3 7 Y Y (by kernel_rfl) Y Y Y Y (fun _=>Ext.app) (fun _=>Ext.app) (fun h=>by cases h) (fun h=>by cases h) (Zbp [none] (r := 2) (f := R3) (z0 := 0) Y (ov Y) (ov Y) Xg Y tZ3 Y Y h_l) (Qd (row := [_, _, _, _, _]) 2 Y Zex Y tZ_60) ?_ ?_
    ·
     exact ZZ 6 _ Y (by kernel_rfl) Y Y (fun hp'=>JE (ys := [_, _, _, _, _]) Zjh Zjn Zex (.cons (cvs (ov Y)<|Zn Y)<|.cons (cvs (ov Y)<|Zn Y)<|.cons (cvs (ov Y)<|Zn Y)<|.cons (cvs (ov Y)<|Zn Y) .nil) Y)<|Zad 7 _ _ Y (by kernel_rfl) Y Y (fun _=>Ext.app) (fun h=>by cases h) (Qd (row := [_, _, _, _, _]) 3 Y Zex Y tZ_60)<|Do 8 Y (Zk (ov Y) (ov Y) (ZB Zay Y) Y Y Y (Nat.le_of_ble_eq_true Y) (Zb Y) Y)<|Dd<|⟨_, h, ES [some 0, some 3, some 2, some 1]⟩
    ·
     exact Zad 3 _ _ Y (by kernel_rfl) Y Y (fun _=>Ext.app) (fun h=>by cases h) (Zbp [none] (r := 3) (f := R3) (z0 := 0) Y (ov Y) (ov Y) Xg Y tZ3 Y Y h_l)<|Dq 6 Y (JE (ys := [_, _, _, _, _]) Zjh Zjn Zex (.cons (cvs (ov Y)<|Zn Y)<|.cons (cvs (ov Y)<|Zn Y)<|.cons (cvs (ov Y)<|Zn Y)<|.cons (cvs (ov Y)<|Zn Y) .nil) Y)<|Do 8 Y (Zk (ov Y) (ov Y) (ZB Zay Y) Y Y Y (Nat.le_of_ble_eq_true Y) (Zb Y) Y)<|Dd<|⟨_, h, ES [some 0, some 2, some 3, some 1]⟩
   ·
    refine ZmL 3 5 Y Y (by kernel_rfl) Y Y Y Y (fun _=>Ext.app) (fun _=>Ext.app) (fun h=>by cases h) (fun h=>by cases h) (Zbp [none] (r := 2) (f := R3) (z0 := 0) Y (ov Y) (ov Y) Xg Y tZ3 Y Y h_l) (Zbp [none] (r := 2) (f := R4) (z0 := false) Y (ov Y) (ov Y) ZjV Y tZ4 Y Y h_l2) ?_ ?_
    ·
     exact Zad 5 _ _ Y (by kernel_rfl) Y Y (fun _=>Ext.app) (fun h=>by cases h) (Zbp [none] (r := 3) (f := R4) (z0 := false) Y (ov Y) (ov Y) ZjV Y tZ4 Y Y h_l2)<|Dq 6 Y (JE (ys := [_, _, _, _, _]) Zjh Zjn Zex (.cons (cvs (ov Y)<|Zn Y)<|.cons (cvs (ov Y)<|Zn Y)<|.cons (cvs (ov Y)<|Zn Y)<|.cons (cvs (ov Y)<|Zn Y) .nil) Y)<|Do 8 Y (Zk (ov Y) (ov Y) (ZB Zay Y) Y Y Y (Nat.le_of_ble_eq_true Y) (Zb Y) Y)<|Dd<|⟨_, h, ES [some 0, some 1, some 2, some 3]⟩
    ·
     exact Zad 3 _ _ Y (by kernel_rfl) Y Y (fun _=>Ext.app) (fun h=>by cases h) (Zbp [none] (r := 3) (f := R3) (z0 := 0) Y (ov Y) (ov Y) Xg Y tZ3 Y Y h_l)<|Dq 6 Y (JE (ys := [_, _, _, _, _]) Zjh Zjn Zex (.cons (cvs (ov Y)<|Zn Y)<|.cons (cvs (ov Y)<|Zn Y)<|.cons (cvs (ov Y)<|Zn Y)<|.cons (cvs (ov Y)<|Zn Y) .nil) Y)<|Do 8 Y (Zk (ov Y) (ov Y) (ZB Zay Y) Y Y Y (Nat.le_of_ble_eq_true Y) (Zb Y) Y)<|Dd<|⟨_, h, ES [some 0, some 1, some 3, some 2]⟩
  ·
   refine I1 (fun Sectors=>⟨[(6, .ptr 0 1 0 0), (8, .ptr 1 1 0 0)], [some ⟨60, [[.int .i64 0, .int .i64 0, .nils, .nils, .nils]]⟩, some ⟨60, [[.int .i64 slots, .int .i64 limit, .own 2 Sectors.length, .own 3 Wear.length, .own 4 Bad.length]]⟩, some ⟨29, List.map O29 Sectors⟩, some ⟨3, List.map R3 Wear⟩, some ⟨4, List.map R4 Bad⟩]⟩) h (fun h=>?_) fun Sectors h=>?_
   ·
    refine Tr<|Rm Y<|Rm Y<|Za<|Zf<|?_
    obtain ⟨r1, hl1, ho1⟩ := Xk h
    refine L2 (fun Sectors2 i=>⟨[(1, .int .i64 slots), (6, .ptr 0 1 0 0), (8, .ptr 1 1 0 0), (30, .int .i64 sectors), (31, .int .i64 i)], [some ⟨60, [[.int .i64 0, .int .i64 0, .nils, .nils, .nils]]⟩, some ⟨60, [[.int .i64 slots, .int .i64 limit, .own 2 Sectors2.length, .own 3 Wear.length, .own 4 Bad.length]]⟩, some ⟨29, List.map O29 Sectors2⟩, some ⟨3, List.map R3 Wear⟩, some ⟨4, List.map R4 Bad⟩]⟩) hl1 (ES [some 0, some 1, none, some 2, some 3]) fun n1 Sectors2 i h=>?_
    unfold ZaK at h
    refine Tr<|R2 ZU Y<|Za<|Zg<|If h Y (fun h=>?_) fun h=>?_
    ·
     refine Zh<|I1 (fun Sectors3=>⟨[(1, .int .i64 slots), (6, .ptr 0 1 0 0), (8, .ptr 1 1 0 0), (30, .int .i64 sectors), (31, .int .i64 i)], [some ⟨60, [[.int .i64 0, .int .i64 0, .nils, .nils, .nils]]⟩, some ⟨60, [[.int .i64 slots, .int .i64 limit, .own 2 Sectors3.length, .own 3 Wear.length, .own 4 Bad.length]]⟩, some ⟨29, List.map O29 Sectors3⟩, some ⟨3, List.map R3 Wear⟩, some ⟨4, List.map R4 Bad⟩]⟩) h (fun h=>?_) fun Sectors3 h=>?_
     ·
      refine Zf<|K5 1 6 8 30 31 Y<|QM (cw := ⟨true, false, [], [], []⟩) (by kernel_rfl)<|ZZ 3 _ Y (by kernel_rfl) Y Y (fun hp'=>Zc<|ov Y)<|bE h fun y4 h_y4 h=>Zmg [0, 2, 4] (by kernel_rfl)<|.q Y Y Y (Zd (ov Y) Y Y ZQ) ?_<|.w Y Y Y (fun h=>by cases h) (fun h=>by cases h) (Jz<|Zal Xf (.cons (cvs (ov Y)<|Zn Y) Y (.cons (.b Y) .nil) .nil) Y Y) ?_<|.w Y Y Y (fun h=>by cases h) (fun h=>by cases h) (Jz<|Zt (Qa h_y4)<|.cons (ov Y) (.b Y) .nil) ?_ .nil
      ·
       refine Zmg [1, 2, 4] (by kernel_rfl)<|.q Y Y Y (Zv (ov Y) Y Y Y QK Y) ?_<|.w Y Y Y (fun h=>by cases h) (fun h=>by cases h) (Jz<|Zal Xf (.cons (cvs (ov Y)<|Zn Y) Y (.cons (.b Y) .nil) .nil) Y Y) ?_<|.w Y Y Y (fun h=>by cases h) (fun h=>by cases h) (Jz<|Zt (Qa h_y4)<|.cons (ov Y) (.b Y) .nil) ?_ .nil
       ·
        refine ZmL 2 4 Y Y (by kernel_rfl) Y Y Y Y (fun h=>by cases h) (fun h=>by cases h) (fun h=>by cases h) (fun h=>by cases h) (Jz<|Zal Xf (.cons (cvs (ov Y)<|Zn Y) Y (.cons (.b Y) .nil) .nil) Y Y) (Jz<|Zt (Qa h_y4)<|.cons (ov Y) (.b Y) .nil) ?_ ?_
        ·
         exact Do 4 Y (Jz<|Zt (Qa h_y4)<|.cons (ov Y) (.b Y) .nil)<|bE h fun y5 h_y5 h=>Do 5 Y (ZE [] (Zj h_y5) (.cons (ov Y) (.dat Y)<|.cons (ov Y) (.dat Y) .nil) .nil Y (.keep Y Y<|.keep Y Y<|.keep Y Y<|.keep Y Y<|.keep Y Y<|.lent 0 (.inr ⟨Nat.le_of_ble_eq_true Y, Y⟩) Y (roM D5) .nil) Y Y<|.own _<|.inr ⟨Nat.le_of_ble_eq_true Y, Y⟩)<|Do 6 Y (Q1 (r := 6) Y Qp (.cons (cvs (ov Y)<|Zn Y) Y .nil) Y Y)<|bE h fun l3 h_l3 h=>Do 7 Y (ZP (f := O29) (ov Y) (Qi (o := ⟨29, [[.own 5 y5.length]]⟩) (ov Y) Y Y tZ_29) Qp Y Y (Zb Y) Y h_l3)<|Dq 8 Y (Zd (ov Y) Y Y ZQ)<|Do 9 Y (Zk (ov Y) (ov Y) (Ze QK) Y Y Y (Nat.le_of_ble_eq_true Y) (Zb Y) Y)<|Qf (by kernel_rfl) (Ent.trans (Ent.absorbH (r := 2) (j := 0) (q := 5) Y (Zo h_l3) Y Y (List.length_map ..) Y)<|Ent.closeS (r := 2) Y (Zo h_l3) Y)<|⟨_, h, ES [some 0, some 1, some 2, some 3, some 4] (hhp := .cons Y (ro1 (by exact tZ_60.symm)<|rld Y)<|.cons Y (ro1 (by exact tZ_60.symm)<|rlc (.dat Y)<|rlc (.dat Y)<|rlc (.own _ Y)<|rlc (.own _ Y)<|rlc (.own _ Y) rln)<|.cons Y (roO Ju)<|.cons Y (roM D3)<|.cons Y (roM D4) .nil)⟩
        ·
         exact Zad 2 (.sl 5<|List.map R5 ([255] : List Int)) _ Y (by kernel_rfl) Y Y (fun h=>by cases h) (fun h=>by cases h) (Jz<|Zal Xf (.cons (cvs (ov Y)<|Zn Y) Y (.cons (.b Y) .nil) .nil) Y Y)<|bE h fun y5 h_y5 h=>Do 5 Y (ZE [] (Zj h_y5) (.cons (ov Y) (.dat Y)<|.cons (ov Y) (.dat Y) .nil) .nil Y (.keep Y Y<|.keep Y Y<|.keep Y Y<|.keep Y Y<|.keep Y Y<|.lent 0 (.inr ⟨Nat.le_of_ble_eq_true Y, Y⟩) Y (roM D5) .nil) Y Y<|.own _<|.inr ⟨Nat.le_of_ble_eq_true Y, Y⟩)<|Do 6 Y (Q1 (r := 6) Y Qp (.cons (cvs (ov Y)<|Zn Y) Y .nil) Y Y)<|bE h fun l3 h_l3 h=>Do 7 Y (ZP (f := O29) (ov Y) (Qi (o := ⟨29, [[.own 5 y5.length]]⟩) (ov Y) Y Y tZ_29) Qp Y Y (Zb Y) Y h_l3)<|Dq 8 Y (Zd (ov Y) Y Y ZQ)<|Do 9 Y (Zk (ov Y) (ov Y) (Ze QK) Y Y Y (Nat.le_of_ble_eq_true Y) (Zb Y) Y)<|Qf (by kernel_rfl) (Ent.trans (Ent.absorbH (r := 2) (j := 0) (q := 5) Y (Zo h_l3) Y Y (List.length_map ..) Y)<|Ent.closeS (r := 2) Y (Zo h_l3) Y)<|⟨_, h, ES [some 0, some 1, some 2, some 3, some 4] (hhp := .cons Y (ro1 (by exact tZ_60.symm)<|rld Y)<|.cons Y (ro1 (by exact tZ_60.symm)<|rlc (.dat Y)<|rlc (.dat Y)<|rlc (.own _ Y)<|rlc (.own _ Y)<|rlc (.own _ Y) rln)<|.cons Y (roO Ju)<|.cons Y (roM D3)<|.cons Y (roM D4) .nil)⟩
       ·
        refine Dw 1 4 Y (Zv (ov Y) Y Y Y QK Y) (Jz<|Zt (Qa h_y4)<|.cons (ov Y) (.b Y) .nil) ?_ ?_
        ·
         exact Do 4 Y (Jz<|Zt (Qa h_y4)<|.cons (ov Y) (.b Y) .nil)<|bE h fun y5 h_y5 h=>Do 5 Y (ZE [] (Zj h_y5) (.cons (ov Y) (.dat Y)<|.cons (ov Y) (.dat Y) .nil) .nil Y (.keep Y Y<|.keep Y Y<|.keep Y Y<|.keep Y Y<|.keep Y Y<|.lent 0 (.inr ⟨Nat.le_of_ble_eq_true Y, Y⟩) Y (roM D5) .nil) Y Y<|.own _<|.inr ⟨Nat.le_of_ble_eq_true Y, Y⟩)<|Do 6 Y (Q1 (r := 6) Y Qp (.cons (cvs (ov Y)<|Zn Y) Y .nil) Y Y)<|bE h fun l3 h_l3 h=>Do 7 Y (ZP (f := O29) (ov Y) (Qi (o := ⟨29, [[.own 5 y5.length]]⟩) (ov Y) Y Y tZ_29) Qp Y Y (Zb Y) Y h_l3)<|Dq 8 Y (Zd (ov Y) Y Y ZQ)<|Do 9 Y (Zk (ov Y) (ov Y) (Ze QK) Y Y Y (Nat.le_of_ble_eq_true Y) (Zb Y) Y)<|Qf (by kernel_rfl) (Ent.trans (Ent.absorbH (r := 2) (j := 0) (q := 5) Y (Zo h_l3) Y Y (List.length_map ..) Y)<|Ent.closeS (r := 2) Y (Zo h_l3) Y)<|⟨_, h, ES [some 0, some 1, some 2, some 3, some 4] (hhp := .cons Y (ro1 (by exact tZ_60.symm)<|rld Y)<|.cons Y (ro1 (by exact tZ_60.symm)<|rlc (.dat Y)<|rlc (.dat Y)<|rlc (.own _ Y)<|rlc (.own _ Y)<|rlc (.own _ Y) rln)<|.cons Y (roO Ju)<|.cons Y (roM D3)<|.cons Y (roM D4) .nil)⟩
        ·
         refine bE h fun y5 h_y5 h=>Dw 1 5 Y (Zv (ov Y) Y Y Y QK Y) (ZE [] (Zj h_y5) (.cons (ov Y) (.dat Y)<|.cons (ov Y) (.dat Y) .nil) .nil Y (.keep Y Y<|.keep Y Y<|.keep Y Y<|.keep Y Y<|.keep Y Y<|.lent 0 (.inr ⟨Nat.le_of_ble_eq_true Y, Y⟩) Y (roM D5) .nil) Y Y<|.own _<|.inr ⟨Nat.le_of_ble_eq_true Y, Y⟩) ?_ ?_
         ·
          exact Do 5 Y (ZE [] (Zj h_y5) (.cons (ov Y) (.dat Y)<|.cons (ov Y) (.dat Y) .nil) .nil Y (.keep Y Y<|.keep Y Y<|.keep Y Y<|.keep Y Y<|.keep Y Y<|.lent 0 (.inr ⟨Nat.le_of_ble_eq_true Y, Y⟩) Y (roM D5) .nil) Y Y<|.own _<|.inr ⟨Nat.le_of_ble_eq_true Y, Y⟩)<|Do 6 Y (Q1 (r := 6) Y Qp (.cons (cvs (ov Y)<|Zn Y) Y .nil) Y Y)<|bE h fun l3 h_l3 h=>Do 7 Y (ZP (f := O29) (ov Y) (Qi (o := ⟨29, [[.own 5 y5.length]]⟩) (ov Y) Y Y tZ_29) Qp Y Y (Zb Y) Y h_l3)<|Dq 8 Y (Zd (ov Y) Y Y ZQ)<|Do 9 Y (Zk (ov Y) (ov Y) (Ze QK) Y Y Y (Nat.le_of_ble_eq_true Y) (Zb Y) Y)<|Qf (by kernel_rfl) (Ent.trans (Ent.absorbH (r := 2) (j := 0) (q := 5) Y (Zo h_l3) Y Y (List.length_map ..) Y)<|Ent.closeS (r := 2) Y (Zo h_l3) Y)<|⟨_, h, ES [some 0, some 1, some 2, some 3, some 4] (hhp := .cons Y (ro1 (by exact tZ_60.symm)<|rld Y)<|.cons Y (ro1 (by exact tZ_60.symm)<|rlc (.dat Y)<|rlc (.dat Y)<|rlc (.own _ Y)<|rlc (.own _ Y)<|rlc (.own _ Y) rln)<|.cons Y (roO Ju)<|.cons Y (roM D3)<|.cons Y (roM D4) .nil)⟩
         ·
          refine Dw 1 6 Y (Zv (ov Y) Y Y Y QK Y) (Q1 (r := 6) Y Qp (.cons (cvs (ov Y)<|Zn Y) Y .nil) Y Y) ?_ ?_
          ·
           exact Do 6 Y (Q1 (r := 6) Y Qp (.cons (cvs (ov Y)<|Zn Y) Y .nil) Y Y)<|bE h fun l3 h_l3 h=>Do 7 Y (ZP (f := O29) (ov Y) (Qi (o := ⟨29, [[.own 5 y5.length]]⟩) (ov Y) Y Y tZ_29) Qp Y Y (Zb Y) Y h_l3)<|Dq 8 Y (Zd (ov Y) Y Y ZQ)<|Do 9 Y (Zk (ov Y) (ov Y) (Ze QK) Y Y Y (Nat.le_of_ble_eq_true Y) (Zb Y) Y)<|Qf (by kernel_rfl) (Ent.trans (Ent.absorbH (r := 2) (j := 0) (q := 5) Y (Zo h_l3) Y Y (List.length_map ..) Y)<|Ent.closeS (r := 2) Y (Zo h_l3) Y)<|⟨_, h, ES [some 0, some 1, some 2, some 3, some 4] (hhp := .cons Y (ro1 (by exact tZ_60.symm)<|rld Y)<|.cons Y (ro1 (by exact tZ_60.symm)<|rlc (.dat Y)<|rlc (.dat Y)<|rlc (.own _ Y)<|rlc (.own _ Y)<|rlc (.own _ Y) rln)<|.cons Y (roO Ju)<|.cons Y (roM D3)<|.cons Y (roM D4) .nil)⟩
          ·
           exact Dq 1 Y (Zv (ov Y) Y Y Y QK Y)<|bE h fun l3 h_l3 h=>Do 7 Y (ZP (f := O29) (ov Y) (Qi (o := ⟨29, [[.own 5 y5.length]]⟩) (ov Y) Y Y tZ_29) Qp Y Y (Zb Y) Y h_l3)<|Dq 8 Y (Zd (ov Y) Y Y ZQ)<|Do 9 Y (Zk (ov Y) (ov Y) (Ze QK) Y Y Y (Nat.le_of_ble_eq_true Y) (Zb Y) Y)<|Qf (by kernel_rfl) (Ent.trans (Ent.absorbH (r := 2) (j := 0) (q := 5) Y (Zo h_l3) Y Y (List.length_map ..) Y)<|Ent.closeS (r := 2) Y (Zo h_l3) Y)<|⟨_, h, ES [some 0, some 1, some 2, some 3, some 4] (hhp := .cons Y (ro1 (by exact tZ_60.symm)<|rld Y)<|.cons Y (ro1 (by exact tZ_60.symm)<|rlc (.dat Y)<|rlc (.dat Y)<|rlc (.own _ Y)<|rlc (.own _ Y)<|rlc (.own _ Y) rln)<|.cons Y (roO Ju)<|.cons Y (roM D3)<|.cons Y (roM D4) .nil)⟩
       ·
        refine Dw 1 2 Y (Zv (ov Y) Y Y Y QK Y) (Jz<|Zal Xf (.cons (cvs (ov Y)<|Zn Y) Y (.cons (.b Y) .nil) .nil) Y Y) ?_ ?_
        ·
         exact Zad 2 (.sl 5<|List.map R5 ([255] : List Int)) _ Y (by kernel_rfl) Y Y (fun h=>by cases h) (fun h=>by cases h) (Jz<|Zal Xf (.cons (cvs (ov Y)<|Zn Y) Y (.cons (.b Y) .nil) .nil) Y Y)<|bE h fun y5 h_y5 h=>Do 5 Y (ZE [] (Zj h_y5) (.cons (ov Y) (.dat Y)<|.cons (ov Y) (.dat Y) .nil) .nil Y (.keep Y Y<|.keep Y Y<|.keep Y Y<|.keep Y Y<|.keep Y Y<|.lent 0 (.inr ⟨Nat.le_of_ble_eq_true Y, Y⟩) Y (roM D5) .nil) Y Y<|.own _<|.inr ⟨Nat.le_of_ble_eq_true Y, Y⟩)<|Do 6 Y (Q1 (r := 6) Y Qp (.cons (cvs (ov Y)<|Zn Y) Y .nil) Y Y)<|bE h fun l3 h_l3 h=>Do 7 Y (ZP (f := O29) (ov Y) (Qi (o := ⟨29, [[.own 5 y5.length]]⟩) (ov Y) Y Y tZ_29) Qp Y Y (Zb Y) Y h_l3)<|Dq 8 Y (Zd (ov Y) Y Y ZQ)<|Do 9 Y (Zk (ov Y) (ov Y) (Ze QK) Y Y Y (Nat.le_of_ble_eq_true Y) (Zb Y) Y)<|Qf (by kernel_rfl) (Ent.trans (Ent.absorbH (r := 2) (j := 0) (q := 5) Y (Zo h_l3) Y Y (List.length_map ..) Y)<|Ent.closeS (r := 2) Y (Zo h_l3) Y)<|⟨_, h, ES [some 0, some 1, some 2, some 3, some 4] (hhp := .cons Y (ro1 (by exact tZ_60.symm)<|rld Y)<|.cons Y (ro1 (by exact tZ_60.symm)<|rlc (.dat Y)<|rlc (.dat Y)<|rlc (.own _ Y)<|rlc (.own _ Y)<|rlc (.own _ Y) rln)<|.cons Y (roO Ju)<|.cons Y (roM D3)<|.cons Y (roM D4) .nil)⟩
        ·
         refine bE h fun y5 h_y5 h=>Dw 1 5 Y (Zv (ov Y) Y Y Y QK Y) (ZE [] (Zj h_y5) (.cons (ov Y) (.dat Y)<|.cons (ov Y) (.dat Y) .nil) .nil Y (.keep Y Y<|.keep Y Y<|.keep Y Y<|.keep Y Y<|.keep Y Y<|.lent 0 (.inr ⟨Nat.le_of_ble_eq_true Y, Y⟩) Y (roM D5) .nil) Y Y<|.own _<|.inr ⟨Nat.le_of_ble_eq_true Y, Y⟩) ?_ ?_
         ·
          exact Do 5 Y (ZE [] (Zj h_y5) (.cons (ov Y) (.dat Y)<|.cons (ov Y) (.dat Y) .nil) .nil Y (.keep Y Y<|.keep Y Y<|.keep Y Y<|.keep Y Y<|.keep Y Y<|.lent 0 (.inr ⟨Nat.le_of_ble_eq_true Y, Y⟩) Y (roM D5) .nil) Y Y<|.own _<|.inr ⟨Nat.le_of_ble_eq_true Y, Y⟩)<|Do 6 Y (Q1 (r := 6) Y Qp (.cons (cvs (ov Y)<|Zn Y) Y .nil) Y Y)<|bE h fun l3 h_l3 h=>Do 7 Y (ZP (f := O29) (ov Y) (Qi (o := ⟨29, [[.own 5 y5.length]]⟩) (ov Y) Y Y tZ_29) Qp Y Y (Zb Y) Y h_l3)<|Dq 8 Y (Zd (ov Y) Y Y ZQ)<|Do 9 Y (Zk (ov Y) (ov Y) (Ze QK) Y Y Y (Nat.le_of_ble_eq_true Y) (Zb Y) Y)<|Qf (by kernel_rfl) (Ent.trans (Ent.absorbH (r := 2) (j := 0) (q := 5) Y (Zo h_l3) Y Y (List.length_map ..) Y)<|Ent.closeS (r := 2) Y (Zo h_l3) Y)<|⟨_, h, ES [some 0, some 1, some 2, some 3, some 4] (hhp := .cons Y (ro1 (by exact tZ_60.symm)<|rld Y)<|.cons Y (ro1 (by exact tZ_60.symm)<|rlc (.dat Y)<|rlc (.dat Y)<|rlc (.own _ Y)<|rlc (.own _ Y)<|rlc (.own _ Y) rln)<|.cons Y (roO Ju)<|.cons Y (roM D3)<|.cons Y (roM D4) .nil)⟩
         ·
          refine Dw 1 6 Y (Zv (ov Y) Y Y Y QK Y) (Q1 (r := 6) Y Qp (.cons (cvs (ov Y)<|Zn Y) Y .nil) Y Y) ?_ ?_
          ·
           exact Do 6 Y (Q1 (r := 6) Y Qp (.cons (cvs (ov Y)<|Zn Y) Y .nil) Y Y)<|bE h fun l3 h_l3 h=>Do 7 Y (ZP (f := O29) (ov Y) (Qi (o := ⟨29, [[.own 5 y5.length]]⟩) (ov Y) Y Y tZ_29) Qp Y Y (Zb Y) Y h_l3)<|Dq 8 Y (Zd (ov Y) Y Y ZQ)<|Do 9 Y (Zk (ov Y) (ov Y) (Ze QK) Y Y Y (Nat.le_of_ble_eq_true Y) (Zb Y) Y)<|Qf (by kernel_rfl) (Ent.trans (Ent.absorbH (r := 2) (j := 0) (q := 5) Y (Zo h_l3) Y Y (List.length_map ..) Y)<|Ent.closeS (r := 2) Y (Zo h_l3) Y)<|⟨_, h, ES [some 0, some 1, some 2, some 3, some 4] (hhp := .cons Y (ro1 (by exact tZ_60.symm)<|rld Y)<|.cons Y (ro1 (by exact tZ_60.symm)<|rlc (.dat Y)<|rlc (.dat Y)<|rlc (.own _ Y)<|rlc (.own _ Y)<|rlc (.own _ Y) rln)<|.cons Y (roO Ju)<|.cons Y (roM D3)<|.cons Y (roM D4) .nil)⟩
          ·
           exact Dq 1 Y (Zv (ov Y) Y Y Y QK Y)<|bE h fun l3 h_l3 h=>Do 7 Y (ZP (f := O29) (ov Y) (Qi (o := ⟨29, [[.own 5 y5.length]]⟩) (ov Y) Y Y tZ_29) Qp Y Y (Zb Y) Y h_l3)<|Dq 8 Y (Zd (ov Y) Y Y ZQ)<|Do 9 Y (Zk (ov Y) (ov Y) (Ze QK) Y Y Y (Nat.le_of_ble_eq_true Y) (Zb Y) Y)<|Qf (by kernel_rfl) (Ent.trans (Ent.absorbH (r := 2) (j := 0) (q := 5) Y (Zo h_l3) Y Y (List.length_map ..) Y)<|Ent.closeS (r := 2) Y (Zo h_l3) Y)<|⟨_, h, ES [some 0, some 1, some 2, some 3, some 4] (hhp := .cons Y (ro1 (by exact tZ_60.symm)<|rld Y)<|.cons Y (ro1 (by exact tZ_60.symm)<|rlc (.dat Y)<|rlc (.dat Y)<|rlc (.own _ Y)<|rlc (.own _ Y)<|rlc (.own _ Y) rln)<|.cons Y (roO Ju)<|.cons Y (roM D3)<|.cons Y (roM D4) .nil)⟩
      ·
       refine Dw 0 4 Y (Zd (ov Y) Y Y ZQ) (Jz<|Zt (Qa h_y4)<|.cons (ov Y) (.b Y) .nil) ?_ ?_
       ·
        refine Dw 1 4 Y (Zv (ov Y) Y Y Y QK Y) (Jz<|Zt (Qa h_y4)<|.cons (ov Y) (.b Y) .nil) ?_ ?_
        ·
         exact Do 4 Y (Jz<|Zt (Qa h_y4)<|.cons (ov Y) (.b Y) .nil)<|bE h fun y5 h_y5 h=>Do 5 Y (ZE [] (Zj h_y5) (.cons (ov Y) (.dat Y)<|.cons (ov Y) (.dat Y) .nil) .nil Y (.keep Y Y<|.keep Y Y<|.keep Y Y<|.keep Y Y<|.keep Y Y<|.lent 0 (.inr ⟨Nat.le_of_ble_eq_true Y, Y⟩) Y (roM D5) .nil) Y Y<|.own _<|.inr ⟨Nat.le_of_ble_eq_true Y, Y⟩)<|Do 6 Y (Q1 (r := 6) Y Qp (.cons (cvs (ov Y)<|Zn Y) Y .nil) Y Y)<|bE h fun l3 h_l3 h=>Do 7 Y (ZP (f := O29) (ov Y) (Qi (o := ⟨29, [[.own 5 y5.length]]⟩) (ov Y) Y Y tZ_29) Qp Y Y (Zb Y) Y h_l3)<|Dq 8 Y (Zd (ov Y) Y Y ZQ)<|Do 9 Y (Zk (ov Y) (ov Y) (Ze QK) Y Y Y (Nat.le_of_ble_eq_true Y) (Zb Y) Y)<|Qf (by kernel_rfl) (Ent.trans (Ent.absorbH (r := 2) (j := 0) (q := 5) Y (Zo h_l3) Y Y (List.length_map ..) Y)<|Ent.closeS (r := 2) Y (Zo h_l3) Y)<|⟨_, h, ES [some 0, some 1, some 2, some 3, some 4] (hhp := .cons Y (ro1 (by exact tZ_60.symm)<|rld Y)<|.cons Y (ro1 (by exact tZ_60.symm)<|rlc (.dat Y)<|rlc (.dat Y)<|rlc (.own _ Y)<|rlc (.own _ Y)<|rlc (.own _ Y) rln)<|.cons Y (roO Ju)<|.cons Y (roM D3)<|.cons Y (roM D4) .nil)⟩
        ·
         refine bE h fun y5 h_y5 h=>Dw 1 5 Y (Zv (ov Y) Y Y Y QK Y) (ZE [] (Zj h_y5) (.cons (ov Y) (.dat Y)<|.cons (ov Y) (.dat Y) .nil) .nil Y (.keep Y Y<|.keep Y Y<|.keep Y Y<|.keep Y Y<|.keep Y Y<|.lent 0 (.inr ⟨Nat.le_of_ble_eq_true Y, Y⟩) Y (roM D5) .nil) Y Y<|.own _<|.inr ⟨Nat.le_of_ble_eq_true Y, Y⟩) ?_ ?_
         ·
          exact Do 5 Y (ZE [] (Zj h_y5) (.cons (ov Y) (.dat Y)<|.cons (ov Y) (.dat Y) .nil) .nil Y (.keep Y Y<|.keep Y Y<|.keep Y Y<|.keep Y Y<|.keep Y Y<|.lent 0 (.inr ⟨Nat.le_of_ble_eq_true Y, Y⟩) Y (roM D5) .nil) Y Y<|.own _<|.inr ⟨Nat.le_of_ble_eq_true Y, Y⟩)<|Do 6 Y (Q1 (r := 6) Y Qp (.cons (cvs (ov Y)<|Zn Y) Y .nil) Y Y)<|bE h fun l3 h_l3 h=>Do 7 Y (ZP (f := O29) (ov Y) (Qi (o := ⟨29, [[.own 5 y5.length]]⟩) (ov Y) Y Y tZ_29) Qp Y Y (Zb Y) Y h_l3)<|Dq 8 Y (Zd (ov Y) Y Y ZQ)<|Do 9 Y (Zk (ov Y) (ov Y) (Ze QK) Y Y Y (Nat.le_of_ble_eq_true Y) (Zb Y) Y)<|Qf (by kernel_rfl) (Ent.trans (Ent.absorbH (r := 2) (j := 0) (q := 5) Y (Zo h_l3) Y Y (List.length_map ..) Y)<|Ent.closeS (r := 2) Y (Zo h_l3) Y)<|⟨_, h, ES [some 0, some 1, some 2, some 3, some 4] (hhp := .cons Y (ro1 (by exact tZ_60.symm)<|rld Y)<|.cons Y (ro1 (by exact tZ_60.symm)<|rlc (.dat Y)<|rlc (.dat Y)<|rlc (.own _ Y)<|rlc (.own _ Y)<|rlc (.own _ Y) rln)<|.cons Y (roO Ju)<|.cons Y (roM D3)<|.cons Y (roM D4) .nil)⟩
         ·
          refine Dw 1 6 Y (Zv (ov Y) Y Y Y QK Y) (Q1 (r := 6) Y Qp (.cons (cvs (ov Y)<|Zn Y) Y .nil) Y Y) ?_ ?_
          ·
           exact Do 6 Y (Q1 (r := 6) Y Qp (.cons (cvs (ov Y)<|Zn Y) Y .nil) Y Y)<|bE h fun l3 h_l3 h=>Do 7 Y (ZP (f := O29) (ov Y) (Qi (o := ⟨29, [[.own 5 y5.length]]⟩) (ov Y) Y Y tZ_29) Qp Y Y (Zb Y) Y h_l3)<|Dq 8 Y (Zd (ov Y) Y Y ZQ)<|Do 9 Y (Zk (ov Y) (ov Y) (Ze QK) Y Y Y (Nat.le_of_ble_eq_true Y) (Zb Y) Y)<|Qf (by kernel_rfl) (Ent.trans (Ent.absorbH (r := 2) (j := 0) (q := 5) Y (Zo h_l3) Y Y (List.length_map ..) Y)<|Ent.closeS (r := 2) Y (Zo h_l3) Y)<|⟨_, h, ES [some 0, some 1, some 2, some 3, some 4] (hhp := .cons Y (ro1 (by exact tZ_60.symm)<|rld Y)<|.cons Y (ro1 (by exact tZ_60.symm)<|rlc (.dat Y)<|rlc (.dat Y)<|rlc (.own _ Y)<|rlc (.own _ Y)<|rlc (.own _ Y) rln)<|.cons Y (roO Ju)<|.cons Y (roM D3)<|.cons Y (roM D4) .nil)⟩
          ·
           exact Dq 1 Y (Zv (ov Y) Y Y Y QK Y)<|bE h fun l3 h_l3 h=>Do 7 Y (ZP (f := O29) (ov Y) (Qi (o := ⟨29, [[.own 5 y5.length]]⟩) (ov Y) Y Y tZ_29) Qp Y Y (Zb Y) Y h_l3)<|Dq 8 Y (Zd (ov Y) Y Y ZQ)<|Do 9 Y (Zk (ov Y) (ov Y) (Ze QK) Y Y Y (Nat.le_of_ble_eq_true Y) (Zb Y) Y)<|Qf (by kernel_rfl) (Ent.trans (Ent.absorbH (r := 2) (j := 0) (q := 5) Y (Zo h_l3) Y Y (List.length_map ..) Y)<|Ent.closeS (r := 2) Y (Zo h_l3) Y)<|⟨_, h, ES [some 0, some 1, some 2, some 3, some 4] (hhp := .cons Y (ro1 (by exact tZ_60.symm)<|rld Y)<|.cons Y (ro1 (by exact tZ_60.symm)<|rlc (.dat Y)<|rlc (.dat Y)<|rlc (.own _ Y)<|rlc (.own _ Y)<|rlc (.own _ Y) rln)<|.cons Y (roO Ju)<|.cons Y (roM D3)<|.cons Y (roM D4) .nil)⟩
       ·
        refine bE h fun y5 h_y5 h=>Dw 0 5 Y (Zd (ov Y) Y Y ZQ) (ZE [] (Zj h_y5) (.cons (ov Y) (.dat Y)<|.cons (ov Y) (.dat Y) .nil) .nil Y (.keep Y Y<|.keep Y Y<|.keep Y Y<|.keep Y Y<|.keep Y Y<|.lent 0 (.inr ⟨Nat.le_of_ble_eq_true Y, Y⟩) Y (roM D5) .nil) Y Y<|.own _<|.inr ⟨Nat.le_of_ble_eq_true Y, Y⟩) ?_ ?_
        ·
         refine Dw 1 5 Y (Zv (ov Y) Y Y Y QK Y) (ZE [] (Zj h_y5) (.cons (ov Y) (.dat Y)<|.cons (ov Y) (.dat Y) .nil) .nil Y (.keep Y Y<|.keep Y Y<|.keep Y Y<|.keep Y Y<|.keep Y Y<|.lent 0 (.inr ⟨Nat.le_of_ble_eq_true Y, Y⟩) Y (roM D5) .nil) Y Y<|.own _<|.inr ⟨Nat.le_of_ble_eq_true Y, Y⟩) ?_ ?_
         ·
          exact Do 5 Y (ZE [] (Zj h_y5) (.cons (ov Y) (.dat Y)<|.cons (ov Y) (.dat Y) .nil) .nil Y (.keep Y Y<|.keep Y Y<|.keep Y Y<|.keep Y Y<|.keep Y Y<|.lent 0 (.inr ⟨Nat.le_of_ble_eq_true Y, Y⟩) Y (roM D5) .nil) Y Y<|.own _<|.inr ⟨Nat.le_of_ble_eq_true Y, Y⟩)<|Do 6 Y (Q1 (r := 6) Y Qp (.cons (cvs (ov Y)<|Zn Y) Y .nil) Y Y)<|bE h fun l3 h_l3 h=>Do 7 Y (ZP (f := O29) (ov Y) (Qi (o := ⟨29, [[.own 5 y5.length]]⟩) (ov Y) Y Y tZ_29) Qp Y Y (Zb Y) Y h_l3)<|Dq 8 Y (Zd (ov Y) Y Y ZQ)<|Do 9 Y (Zk (ov Y) (ov Y) (Ze QK) Y Y Y (Nat.le_of_ble_eq_true Y) (Zb Y) Y)<|Qf (by kernel_rfl) (Ent.trans (Ent.absorbH (r := 2) (j := 0) (q := 5) Y (Zo h_l3) Y Y (List.length_map ..) Y)<|Ent.closeS (r := 2) Y (Zo h_l3) Y)<|⟨_, h, ES [some 0, some 1, some 2, some 3, some 4] (hhp := .cons Y (ro1 (by exact tZ_60.symm)<|rld Y)<|.cons Y (ro1 (by exact tZ_60.symm)<|rlc (.dat Y)<|rlc (.dat Y)<|rlc (.own _ Y)<|rlc (.own _ Y)<|rlc (.own _ Y) rln)<|.cons Y (roO Ju)<|.cons Y (roM D3)<|.cons Y (roM D4) .nil)⟩
         ·
          refine Dw 1 6 Y (Zv (ov Y) Y Y Y QK Y) (Q1 (r := 6) Y Qp (.cons (cvs (ov Y)<|Zn Y) Y .nil) Y Y) ?_ ?_
          ·
           exact Do 6 Y (Q1 (r := 6) Y Qp (.cons (cvs (ov Y)<|Zn Y) Y .nil) Y Y)<|bE h fun l3 h_l3 h=>Do 7 Y (ZP (f := O29) (ov Y) (Qi (o := ⟨29, [[.own 5 y5.length]]⟩) (ov Y) Y Y tZ_29) Qp Y Y (Zb Y) Y h_l3)<|Dq 8 Y (Zd (ov Y) Y Y ZQ)<|Do 9 Y (Zk (ov Y) (ov Y) (Ze QK) Y Y Y (Nat.le_of_ble_eq_true Y) (Zb Y) Y)<|Qf (by kernel_rfl) (Ent.trans (Ent.absorbH (r := 2) (j := 0) (q := 5) Y (Zo h_l3) Y Y (List.length_map ..) Y)<|Ent.closeS (r := 2) Y (Zo h_l3) Y)<|⟨_, h, ES [some 0, some 1, some 2, some 3, some 4] (hhp := .cons Y (ro1 (by exact tZ_60.symm)<|rld Y)<|.cons Y (ro1 (by exact tZ_60.symm)<|rlc (.dat Y)<|rlc (.dat Y)<|rlc (.own _ Y)<|rlc (.own _ Y)<|rlc (.own _ Y) rln)<|.cons Y (roO Ju)<|.cons Y (roM D3)<|.cons Y (roM D4) .nil)⟩
          ·
           exact Dq 1 Y (Zv (ov Y) Y Y Y QK Y)<|bE h fun l3 h_l3 h=>Do 7 Y (ZP (f := O29) (ov Y) (Qi (o := ⟨29, [[.own 5 y5.length]]⟩) (ov Y) Y Y tZ_29) Qp Y Y (Zb Y) Y h_l3)<|Dq 8 Y (Zd (ov Y) Y Y ZQ)<|Do 9 Y (Zk (ov Y) (ov Y) (Ze QK) Y Y Y (Nat.le_of_ble_eq_true Y) (Zb Y) Y)<|Qf (by kernel_rfl) (Ent.trans (Ent.absorbH (r := 2) (j := 0) (q := 5) Y (Zo h_l3) Y Y (List.length_map ..) Y)<|Ent.closeS (r := 2) Y (Zo h_l3) Y)<|⟨_, h, ES [some 0, some 1, some 2, some 3, some 4] (hhp := .cons Y (ro1 (by exact tZ_60.symm)<|rld Y)<|.cons Y (ro1 (by exact tZ_60.symm)<|rlc (.dat Y)<|rlc (.dat Y)<|rlc (.own _ Y)<|rlc (.own _ Y)<|rlc (.own _ Y) rln)<|.cons Y (roO Ju)<|.cons Y (roM D3)<|.cons Y (roM D4) .nil)⟩
        ·
         refine Dw 0 6 Y (Zd (ov Y) Y Y ZQ) (Q1 (r := 6) Y Qp (.cons (cvs (ov Y)<|Zn Y) Y .nil) Y Y) ?_ ?_
         ·
          refine Dw 1 6 Y (Zv (ov Y) Y Y Y QK Y) (Q1 (r := 6) Y Qp (.cons (cvs (ov Y)<|Zn Y) Y .nil) Y Y) ?_ ?_
          ·
           exact Do 6 Y (Q1 (r := 6) Y Qp (.cons (cvs (ov Y)<|Zn Y) Y .nil) Y Y)<|bE h fun l3 h_l3 h=>Do 7 Y (ZP (f := O29) (ov Y) (Qi (o := ⟨29, [[.own 5 y5.length]]⟩) (ov Y) Y Y tZ_29) Qp Y Y (Zb Y) Y h_l3)<|Dq 8 Y (Zd (ov Y) Y Y ZQ)<|Do 9 Y (Zk (ov Y) (ov Y) (Ze QK) Y Y Y (Nat.le_of_ble_eq_true Y) (Zb Y) Y)<|Qf (by kernel_rfl) (Ent.trans (Ent.absorbH (r := 2) (j := 0) (q := 5) Y (Zo h_l3) Y Y (List.length_map ..) Y)<|Ent.closeS (r := 2) Y (Zo h_l3) Y)<|⟨_, h, ES [some 0, some 1, some 2, some 3, some 4] (hhp := .cons Y (ro1 (by exact tZ_60.symm)<|rld Y)<|.cons Y (ro1 (by exact tZ_60.symm)<|rlc (.dat Y)<|rlc (.dat Y)<|rlc (.own _ Y)<|rlc (.own _ Y)<|rlc (.own _ Y) rln)<|.cons Y (roO Ju)<|.cons Y (roM D3)<|.cons Y (roM D4) .nil)⟩
          ·
           exact Dq 1 Y (Zv (ov Y) Y Y Y QK Y)<|bE h fun l3 h_l3 h=>Do 7 Y (ZP (f := O29) (ov Y) (Qi (o := ⟨29, [[.own 5 y5.length]]⟩) (ov Y) Y Y tZ_29) Qp Y Y (Zb Y) Y h_l3)<|Dq 8 Y (Zd (ov Y) Y Y ZQ)<|Do 9 Y (Zk (ov Y) (ov Y) (Ze QK) Y Y Y (Nat.le_of_ble_eq_true Y) (Zb Y) Y)<|Qf (by kernel_rfl) (Ent.trans (Ent.absorbH (r := 2) (j := 0) (q := 5) Y (Zo h_l3) Y Y (List.length_map ..) Y)<|Ent.closeS (r := 2) Y (Zo h_l3) Y)<|⟨_, h, ES [some 0, some 1, some 2, some 3, some 4] (hhp := .cons Y (ro1 (by exact tZ_60.symm)<|rld Y)<|.cons Y (ro1 (by exact tZ_60.symm)<|rlc (.dat Y)<|rlc (.dat Y)<|rlc (.own _ Y)<|rlc (.own _ Y)<|rlc (.own _ Y) rln)<|.cons Y (roO Ju)<|.cons Y (roM D3)<|.cons Y (roM D4) .nil)⟩
         ·
          exact Dq 0 Y (Zd (ov Y) Y Y ZQ)<|Dq 1 Y (Zv (ov Y) Y Y Y QK Y)<|bE h fun l3 h_l3 h=>Do 7 Y (ZP (f := O29) (ov Y) (Qi (o := ⟨29, [[.own 5 y5.length]]⟩) (ov Y) Y Y tZ_29) Qp Y Y (Zb Y) Y h_l3)<|Dq 8 Y (Zd (ov Y) Y Y ZQ)<|Do 9 Y (Zk (ov Y) (ov Y) (Ze QK) Y Y Y (Nat.le_of_ble_eq_true Y) (Zb Y) Y)<|Qf (by kernel_rfl) (Ent.trans (Ent.absorbH (r := 2) (j := 0) (q := 5) Y (Zo h_l3) Y Y (List.length_map ..) Y)<|Ent.closeS (r := 2) Y (Zo h_l3) Y)<|⟨_, h, ES [some 0, some 1, some 2, some 3, some 4] (hhp := .cons Y (ro1 (by exact tZ_60.symm)<|rld Y)<|.cons Y (ro1 (by exact tZ_60.symm)<|rlc (.dat Y)<|rlc (.dat Y)<|rlc (.own _ Y)<|rlc (.own _ Y)<|rlc (.own _ Y) rln)<|.cons Y (roO Ju)<|.cons Y (roM D3)<|.cons Y (roM D4) .nil)⟩
      ·
       refine Dw 0 2 Y (Zd (ov Y) Y Y ZQ) (Jz<|Zal Xf (.cons (cvs (ov Y)<|Zn Y) Y (.cons (.b Y) .nil) .nil) Y Y) ?_ ?_
       ·
        refine Dw 1 2 Y (Zv (ov Y) Y Y Y QK Y) (Jz<|Zal Xf (.cons (cvs (ov Y)<|Zn Y) Y (.cons (.b Y) .nil) .nil) Y Y) ?_ ?_
        ·
         exact Zad 2 (.sl 5<|List.map R5 ([255] : List Int)) _ Y (by kernel_rfl) Y Y (fun h=>by cases h) (fun h=>by cases h) (Jz<|Zal Xf (.cons (cvs (ov Y)<|Zn Y) Y (.cons (.b Y) .nil) .nil) Y Y)<|bE h fun y5 h_y5 h=>Do 5 Y (ZE [] (Zj h_y5) (.cons (ov Y) (.dat Y)<|.cons (ov Y) (.dat Y) .nil) .nil Y (.keep Y Y<|.keep Y Y<|.keep Y Y<|.keep Y Y<|.keep Y Y<|.lent 0 (.inr ⟨Nat.le_of_ble_eq_true Y, Y⟩) Y (roM D5) .nil) Y Y<|.own _<|.inr ⟨Nat.le_of_ble_eq_true Y, Y⟩)<|Do 6 Y (Q1 (r := 6) Y Qp (.cons (cvs (ov Y)<|Zn Y) Y .nil) Y Y)<|bE h fun l3 h_l3 h=>Do 7 Y (ZP (f := O29) (ov Y) (Qi (o := ⟨29, [[.own 5 y5.length]]⟩) (ov Y) Y Y tZ_29) Qp Y Y (Zb Y) Y h_l3)<|Dq 8 Y (Zd (ov Y) Y Y ZQ)<|Do 9 Y (Zk (ov Y) (ov Y) (Ze QK) Y Y Y (Nat.le_of_ble_eq_true Y) (Zb Y) Y)<|Qf (by kernel_rfl) (Ent.trans (Ent.absorbH (r := 2) (j := 0) (q := 5) Y (Zo h_l3) Y Y (List.length_map ..) Y)<|Ent.closeS (r := 2) Y (Zo h_l3) Y)<|⟨_, h, ES [some 0, some 1, some 2, some 3, some 4] (hhp := .cons Y (ro1 (by exact tZ_60.symm)<|rld Y)<|.cons Y (ro1 (by exact tZ_60.symm)<|rlc (.dat Y)<|rlc (.dat Y)<|rlc (.own _ Y)<|rlc (.own _ Y)<|rlc (.own _ Y) rln)<|.cons Y (roO Ju)<|.cons Y (roM D3)<|.cons Y (roM D4) .nil)⟩
        ·
         refine bE h fun y5 h_y5 h=>Dw 1 5 Y (Zv (ov Y) Y Y Y QK Y) (ZE [] (Zj h_y5) (.cons (ov Y) (.dat Y)<|.cons (ov Y) (.dat Y) .nil) .nil Y (.keep Y Y<|.keep Y Y<|.keep Y Y<|.keep Y Y<|.keep Y Y<|.lent 0 (.inr ⟨Nat.le_of_ble_eq_true Y, Y⟩) Y (roM D5) .nil) Y Y<|.own _<|.inr ⟨Nat.le_of_ble_eq_true Y, Y⟩) ?_ ?_
         ·
          exact Do 5 Y (ZE [] (Zj h_y5) (.cons (ov Y) (.dat Y)<|.cons (ov Y) (.dat Y) .nil) .nil Y (.keep Y Y<|.keep Y Y<|.keep Y Y<|.keep Y Y<|.keep Y Y<|.lent 0 (.inr ⟨Nat.le_of_ble_eq_true Y, Y⟩) Y (roM D5) .nil) Y Y<|.own _<|.inr ⟨Nat.le_of_ble_eq_true Y, Y⟩)<|Do 6 Y (Q1 (r := 6) Y Qp (.cons (cvs (ov Y)<|Zn Y) Y .nil) Y Y)<|bE h fun l3 h_l3 h=>Do 7 Y (ZP (f := O29) (ov Y) (Qi (o := ⟨29, [[.own 5 y5.length]]⟩) (ov Y) Y Y tZ_29) Qp Y Y (Zb Y) Y h_l3)<|Dq 8 Y (Zd (ov Y) Y Y ZQ)<|Do 9 Y (Zk (ov Y) (ov Y) (Ze QK) Y Y Y (Nat.le_of_ble_eq_true Y) (Zb Y) Y)<|Qf (by kernel_rfl) (Ent.trans (Ent.absorbH (r := 2) (j := 0) (q := 5) Y (Zo h_l3) Y Y (List.length_map ..) Y)<|Ent.closeS (r := 2) Y (Zo h_l3) Y)<|⟨_, h, ES [some 0, some 1, some 2, some 3, some 4] (hhp := .cons Y (ro1 (by exact tZ_60.symm)<|rld Y)<|.cons Y (ro1 (by exact tZ_60.symm)<|rlc (.dat Y)<|rlc (.dat Y)<|rlc (.own _ Y)<|rlc (.own _ Y)<|rlc (.own _ Y) rln)<|.cons Y (roO Ju)<|.cons Y (roM D3)<|.cons Y (roM D4) .nil)⟩
         ·
          refine Dw 1 6 Y (Zv (ov Y) Y Y Y QK Y) (Q1 (r := 6) Y Qp (.cons (cvs (ov Y)<|Zn Y) Y .nil) Y Y) ?_ ?_
          ·
           exact Do 6 Y (Q1 (r := 6) Y Qp (.cons (cvs (ov Y)<|Zn Y) Y .nil) Y Y)<|bE h fun l3 h_l3 h=>Do 7 Y (ZP (f := O29) (ov Y) (Qi (o := ⟨29, [[.own 5 y5.length]]⟩) (ov Y) Y Y tZ_29) Qp Y Y (Zb Y) Y h_l3)<|Dq 8 Y (Zd (ov Y) Y Y ZQ)<|Do 9 Y (Zk (ov Y) (ov Y) (Ze QK) Y Y Y (Nat.le_of_ble_eq_true Y) (Zb Y) Y)<|Qf (by kernel_rfl) (Ent.trans (Ent.absorbH (r := 2) (j := 0) (q := 5) Y (Zo h_l3) Y Y (List.length_map ..) Y)<|Ent.closeS (r := 2) Y (Zo h_l3) Y)<|⟨_, h, ES [some 0, some 1, some 2, some 3, some 4] (hhp := .cons Y (ro1 (by exact tZ_60.symm)<|rld Y)<|.cons Y (ro1 (by exact tZ_60.symm)<|rlc (.dat Y)<|rlc (.dat Y)<|rlc (.own _ Y)<|rlc (.own _ Y)<|rlc (.own _ Y) rln)<|.cons Y (roO Ju)<|.cons Y (roM D3)<|.cons Y (roM D4) .nil)⟩
          ·
           exact Dq 1 Y (Zv (ov Y) Y Y Y QK Y)<|bE h fun l3 h_l3 h=>Do 7 Y (ZP (f := O29) (ov Y) (Qi (o := ⟨29, [[.own 5 y5.length]]⟩) (ov Y) Y Y tZ_29) Qp Y Y (Zb Y) Y h_l3)<|Dq 8 Y (Zd (ov Y) Y Y ZQ)<|Do 9 Y (Zk (ov Y) (ov Y) (Ze QK) Y Y Y (Nat.le_of_ble_eq_true Y) (Zb Y) Y)<|Qf (by kernel_rfl) (Ent.trans (Ent.absorbH (r := 2) (j := 0) (q := 5) Y (Zo h_l3) Y Y (List.length_map ..) Y)<|Ent.closeS (r := 2) Y (Zo h_l3) Y)<|⟨_, h, ES [some 0, some 1, some 2, some 3, some 4] (hhp := .cons Y (ro1 (by exact tZ_60.symm)<|rld Y)<|.cons Y (ro1 (by exact tZ_60.symm)<|rlc (.dat Y)<|rlc (.dat Y)<|rlc (.own _ Y)<|rlc (.own _ Y)<|rlc (.own _ Y) rln)<|.cons Y (roO Ju)<|.cons Y (roM D3)<|.cons Y (roM D4) .nil)⟩
       ·
        refine bE h fun y5 h_y5 h=>Dw 0 5 Y (Zd (ov Y) Y Y ZQ) (ZE [] (Zj h_y5) (.cons (ov Y) (.dat Y)<|.cons (ov Y) (.dat Y) .nil) .nil Y (.keep Y Y<|.keep Y Y<|.keep Y Y<|.keep Y Y<|.keep Y Y<|.lent 0 (.inr ⟨Nat.le_of_ble_eq_true Y, Y⟩) Y (roM D5) .nil) Y Y<|.own _<|.inr ⟨Nat.le_of_ble_eq_true Y, Y⟩) ?_ ?_
        ·
         refine Dw 1 5 Y (Zv (ov Y) Y Y Y QK Y) (ZE [] (Zj h_y5) (.cons (ov Y) (.dat Y)<|.cons (ov Y) (.dat Y) .nil) .nil Y (.keep Y Y<|.keep Y Y<|.keep Y Y<|.keep Y Y<|.keep Y Y<|.lent 0 (.inr ⟨Nat.le_of_ble_eq_true Y, Y⟩) Y (roM D5) .nil) Y Y<|.own _<|.inr ⟨Nat.le_of_ble_eq_true Y, Y⟩) ?_ ?_
         ·
          exact Do 5 Y (ZE [] (Zj h_y5) (.cons (ov Y) (.dat Y)<|.cons (ov Y) (.dat Y) .nil) .nil Y (.keep Y Y<|.keep Y Y<|.keep Y Y<|.keep Y Y<|.keep Y Y<|.lent 0 (.inr ⟨Nat.le_of_ble_eq_true Y, Y⟩) Y (roM D5) .nil) Y Y<|.own _<|.inr ⟨Nat.le_of_ble_eq_true Y, Y⟩)<|Do 6 Y (Q1 (r := 6) Y Qp (.cons (cvs (ov Y)<|Zn Y) Y .nil) Y Y)<|bE h fun l3 h_l3 h=>Do 7 Y (ZP (f := O29) (ov Y) (Qi (o := ⟨29, [[.own 5 y5.length]]⟩) (ov Y) Y Y tZ_29) Qp Y Y (Zb Y) Y h_l3)<|Dq 8 Y (Zd (ov Y) Y Y ZQ)<|Do 9 Y (Zk (ov Y) (ov Y) (Ze QK) Y Y Y (Nat.le_of_ble_eq_true Y) (Zb Y) Y)<|Qf (by kernel_rfl) (Ent.trans (Ent.absorbH (r := 2) (j := 0) (q := 5) Y (Zo h_l3) Y Y (List.length_map ..) Y)<|Ent.closeS (r := 2) Y (Zo h_l3) Y)<|⟨_, h, ES [some 0, some 1, some 2, some 3, some 4] (hhp := .cons Y (ro1 (by exact tZ_60.symm)<|rld Y)<|.cons Y (ro1 (by exact tZ_60.symm)<|rlc (.dat Y)<|rlc (.dat Y)<|rlc (.own _ Y)<|rlc (.own _ Y)<|rlc (.own _ Y) rln)<|.cons Y (roO Ju)<|.cons Y (roM D3)<|.cons Y (roM D4) .nil)⟩
         ·
          refine Dw 1 6 Y (Zv (ov Y) Y Y Y QK Y) (Q1 (r := 6) Y Qp (.cons (cvs (ov Y)<|Zn Y) Y .nil) Y Y) ?_ ?_
          ·
           exact Do 6 Y (Q1 (r := 6) Y Qp (.cons (cvs (ov Y)<|Zn Y) Y .nil) Y Y)<|bE h fun l3 h_l3 h=>Do 7 Y (ZP (f := O29) (ov Y) (Qi (o := ⟨29, [[.own 5 y5.length]]⟩) (ov Y) Y Y tZ_29) Qp Y Y (Zb Y) Y h_l3)<|Dq 8 Y (Zd (ov Y) Y Y ZQ)<|Do 9 Y (Zk (ov Y) (ov Y) (Ze QK) Y Y Y (Nat.le_of_ble_eq_true Y) (Zb Y) Y)<|Qf (by kernel_rfl) (Ent.trans (Ent.absorbH (r := 2) (j := 0) (q := 5) Y (Zo h_l3) Y Y (List.length_map ..) Y)<|Ent.closeS (r := 2) Y (Zo h_l3) Y)<|⟨_, h, ES [some 0, some 1, some 2, some 3, some 4] (hhp := .cons Y (ro1 (by exact tZ_60.symm)<|rld Y)<|.cons Y (ro1 (by exact tZ_60.symm)<|rlc (.dat Y)<|rlc (.dat Y)<|rlc (.own _ Y)<|rlc (.own _ Y)<|rlc (.own _ Y) rln)<|.cons Y (roO Ju)<|.cons Y (roM D3)<|.cons Y (roM D4) .nil)⟩
          ·
           exact Dq 1 Y (Zv (ov Y) Y Y Y QK Y)<|bE h fun l3 h_l3 h=>Do 7 Y (ZP (f := O29) (ov Y) (Qi (o := ⟨29, [[.own 5 y5.length]]⟩) (ov Y) Y Y tZ_29) Qp Y Y (Zb Y) Y h_l3)<|Dq 8 Y (Zd (ov Y) Y Y ZQ)<|Do 9 Y (Zk (ov Y) (ov Y) (Ze QK) Y Y Y (Nat.le_of_ble_eq_true Y) (Zb Y) Y)<|Qf (by kernel_rfl) (Ent.trans (Ent.absorbH (r := 2) (j := 0) (q := 5) Y (Zo h_l3) Y Y (List.length_map ..) Y)<|Ent.closeS (r := 2) Y (Zo h_l3) Y)<|⟨_, h, ES [some 0, some 1, some 2, some 3, some 4] (hhp := .cons Y (ro1 (by exact tZ_60.symm)<|rld Y)<|.cons Y (ro1 (by exact tZ_60.symm)<|rlc (.dat Y)<|rlc (.dat Y)<|rlc (.own _ Y)<|rlc (.own _ Y)<|rlc (.own _ Y) rln)<|.cons Y (roO Ju)<|.cons Y (roM D3)<|.cons Y (roM D4) .nil)⟩
        ·
         refine Dw 0 6 Y (Zd (ov Y) Y Y ZQ) (Q1 (r := 6) Y Qp (.cons (cvs (ov Y)<|Zn Y) Y .nil) Y Y) ?_ ?_
         ·
          refine Dw 1 6 Y (Zv (ov Y) Y Y Y QK Y) (Q1 (r := 6) Y Qp (.cons (cvs (ov Y)<|Zn Y) Y .nil) Y Y) ?_ ?_
          ·
           exact Do 6 Y (Q1 (r := 6) Y Qp (.cons (cvs (ov Y)<|Zn Y) Y .nil) Y Y)<|bE h fun l3 h_l3 h=>Do 7 Y (ZP (f := O29) (ov Y) (Qi (o := ⟨29, [[.own 5 y5.length]]⟩) (ov Y) Y Y tZ_29) Qp Y Y (Zb Y) Y h_l3)<|Dq 8 Y (Zd (ov Y) Y Y ZQ)<|Do 9 Y (Zk (ov Y) (ov Y) (Ze QK) Y Y Y (Nat.le_of_ble_eq_true Y) (Zb Y) Y)<|Qf (by kernel_rfl) (Ent.trans (Ent.absorbH (r := 2) (j := 0) (q := 5) Y (Zo h_l3) Y Y (List.length_map ..) Y)<|Ent.closeS (r := 2) Y (Zo h_l3) Y)<|⟨_, h, ES [some 0, some 1, some 2, some 3, some 4] (hhp := .cons Y (ro1 (by exact tZ_60.symm)<|rld Y)<|.cons Y (ro1 (by exact tZ_60.symm)<|rlc (.dat Y)<|rlc (.dat Y)<|rlc (.own _ Y)<|rlc (.own _ Y)<|rlc (.own _ Y) rln)<|.cons Y (roO Ju)<|.cons Y (roM D3)<|.cons Y (roM D4) .nil)⟩
          ·
           exact Dq 1 Y (Zv (ov Y) Y Y Y QK Y)<|bE h fun l3 h_l3 h=>Do 7 Y (ZP (f := O29) (ov Y) (Qi (o := ⟨29, [[.own 5 y5.length]]⟩) (ov Y) Y Y tZ_29) Qp Y Y (Zb Y) Y h_l3)<|Dq 8 Y (Zd (ov Y) Y Y ZQ)<|Do 9 Y (Zk (ov Y) (ov Y) (Ze QK) Y Y Y (Nat.le_of_ble_eq_true Y) (Zb Y) Y)<|Qf (by kernel_rfl) (Ent.trans (Ent.absorbH (r := 2) (j := 0) (q := 5) Y (Zo h_l3) Y Y (List.length_map ..) Y)<|Ent.closeS (r := 2) Y (Zo h_l3) Y)<|⟨_, h, ES [some 0, some 1, some 2, some 3, some 4] (hhp := .cons Y (ro1 (by exact tZ_60.symm)<|rld Y)<|.cons Y (ro1 (by exact tZ_60.symm)<|rlc (.dat Y)<|rlc (.dat Y)<|rlc (.own _ Y)<|rlc (.own _ Y)<|rlc (.own _ Y) rln)<|.cons Y (roO Ju)<|.cons Y (roM D3)<|.cons Y (roM D4) .nil)⟩
         ·
          exact Dq 0 Y (Zd (ov Y) Y Y ZQ)<|Dq 1 Y (Zv (ov Y) Y Y Y QK Y)<|bE h fun l3 h_l3 h=>Do 7 Y (ZP (f := O29) (ov Y) (Qi (o := ⟨29, [[.own 5 y5.length]]⟩) (ov Y) Y Y tZ_29) Qp Y Y (Zb Y) Y h_l3)<|Dq 8 Y (Zd (ov Y) Y Y ZQ)<|Do 9 Y (Zk (ov Y) (ov Y) (Ze QK) Y Y Y (Nat.le_of_ble_eq_true Y) (Zb Y) Y)<|Qf (by kernel_rfl) (Ent.trans (Ent.absorbH (r := 2) (j := 0) (q := 5) Y (Zo h_l3) Y Y (List.length_map ..) Y)<|Ent.closeS (r := 2) Y (Zo h_l3) Y)<|⟨_, h, ES [some 0, some 1, some 2, some 3, some 4] (hhp := .cons Y (ro1 (by exact tZ_60.symm)<|rld Y)<|.cons Y (ro1 (by exact tZ_60.symm)<|rlc (.dat Y)<|rlc (.dat Y)<|rlc (.own _ Y)<|rlc (.own _ Y)<|rlc (.own _ Y) rln)<|.cons Y (roO Ju)<|.cons Y (roM D3)<|.cons Y (roM D4) .nil)⟩
     ·
      exact Zr<|R2 ZW Y<|Rm Y<|Za<|⟨_, h, ES [some 0, some 1, some 2, some 3, some 4] (hhp := .cons Y (ro1 (by exact tZ_60.symm)<|rld Y)<|.cons Y (ro1 (by exact tZ_60.symm)<|rlc (.dat Y)<|rlc (.dat Y)<|rlc (.own _ Y)<|rlc (.own _ Y)<|rlc (.own _ Y) rln)<|.cons Y (roO Ju)<|.cons Y (roM D3)<|.cons Y (roM D4) .nil)⟩
    ·
     refine ZM<|?_
     replace h := lx h ▸ ho1
     exact ⟨_, h, ES [some 0, some 1, some 2, some 3, some 4] (hhp := .cons Y (ro1 (by exact tZ_60.symm)<|rld Y)<|.cons Y (ro1 (by exact tZ_60.symm)<|rlc (.dat Y)<|rlc (.dat Y)<|rlc (.own _ Y)<|rlc (.own _ Y)<|rlc (.own _ Y) rln)<|.cons Y (roO Ju)<|.cons Y (roM D3)<|.cons Y (roM D4) .nil)⟩
   ·
    refine Tr<|Rq Y (QC (ov Y) Y Y Y Zay Y Y)<|Rx Y (Zk (ov Y) (ov Y) (ZB Zay Y) Y Y Y (Nat.le_of_ble_eq_true Y) (Zb Y) Y)<|Ra Y<|Za<|?_
    obtain rfl := rt h
    exact Zp (Z5 Y (.two (.agg Y Y Y Y Zay Y Y<|.cons (Dat.view<|.b Y)<|.cons (Dat.view<|.b Y)<|.cons (View.ownO Y Y Ju (fun x=>(D29 x).1) ZpU)<|.cons (View.ownM Y Y D3)<|.cons (View.ownM Y Y D4) .nil)<|rb Y))
end Go.Proofs.YtnlmjeleocelgaaDoor
