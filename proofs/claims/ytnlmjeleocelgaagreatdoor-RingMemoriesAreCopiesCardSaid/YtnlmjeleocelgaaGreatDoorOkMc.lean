/- A text of the proof: a verified executor of the program form, or the contracts of the functions that the law reaches. -/
import Derived.Test.YtnlmjeleocelgaaGreatDoorOkMb
set_option linter.all false
namespace Go.Proofs.YtnlmjeleocelgaaGreatDoor
open Go Go.Vx
set_option maxRecDepth 10000
set_option maxHeartbeats 1000000
set_option linter.unusedVariables false
theorem Zfs {r_ : ring_Recorder} {power : Int} {r : Int} (h : Xb r_ power = some r) :
 CSpec Tryz.prog gl0 65 [.rp [.sl 26 (List.map R26 r_.bank.memories), .sl 105 (List.map R105 r_.bank.spots), .int .i64 r_.copies, .bool r_.frozen, .bool r_.stopped, .int .i64 r_.last, .bool r_.some_] 0, .int .i64 power] (.int .i64 r) := by
 unfold Xb at h
 replace h := QF h
 refine So Tryz.func65 Y fun w0 A=>Tr<|Ra Y<|Za<|Zj<|Zg<|K2 0 1 Y<|Tr<|Rm Y<|R1 ZQ Y<|Rq Y (ZT (ov Y) Zl2)<|Rq Y (Ze (ov Y) tS4 Y)<|Ra Y<|Za<|K3 0 1 5 Y<|If h Y (fun h=>?_) fun h=>?_
 ·
  refine K0<|Tr<|Ra Y<|Za<|?_
  obtain rfl := rt h
  exact Zp (Z5 Y (.one<|rb Y))
 ·
  refine K2 0 1 Y<|Tr<|Rm Y<|R1 ZQ Y<|Rq Y (ZT (ov Y) Zke)<|Rq Y (Ze (ov Y) tS4 Y)<|Ra Y<|Za<|K2 1 10 Y<|If h Y (fun h=>?_) fun h=>?_
  ·
   refine K0<|Tr<|Ra Y<|Za<|?_
   obtain rfl := rt h
   exact Zp (Z5 Y (.one<|rb Y))
  ·
   refine K1 1 Y<|Tr<|Rm Y<|bE h fun y h_y h=>Rq Y (Zw (QS h_y)<|.cons (ov Y) (.b Y)<|.cons (ov Y) (.b Y)<|.cons (ov Y) (.b Y) .nil)<|R1 J7 Y<|Ra Y<|Za<|K1 15 Y<|If h Y (fun h=>?_) fun h=>?_
   ·
    refine K0<|Tr<|Ra Y<|Za<|?_
    obtain rfl := rt h
    exact Zp (Z5 Y (.one<|rb Y))
   ·
    refine Zi<|K0<|Tr<|Ra Y<|Za<|?_
    obtain rfl := rt h
    exact Zp (Z5 Y (.one<|rb Y))
theorem Zao {w : Int} {r : Int} (h : X6 w = some r) :
 CSpec Tryz.prog gl0 104 [.int .u16 w] (.int .i64 r) := by
 unfold X6 at h
 replace h := QF h
 refine So Tryz.func104 Y fun w0 A=>Tr<|Ra Y<|Za<|Tr<|Rm Y<|R2 Zby Y<|Rq Y (QA (ov Y) Zd7 tI3 Y)<|Ra Y<|Za<|?_
 obtain rfl := rt h
 exact Zp (Z5 Y (.one<|rb Y))
theorem Zeg {f : Vector Int 64} {r : Int} (h : XH f = some r) :
 CSpec Tryz.prog gl0 102 [.rp (List.map C40 f.toList) 0] (.int .i64 r) := by
 unfold XH at h
 replace h := QF h
 refine So Tryz.func102 Y fun w0 A=>Tr<|Ra Y<|Za<|Zj<|QH (cw := md0) (by kernel_rfl)<|D1 0 Zc Y<|D1 1 ZQ Y<|bE h fun x h_x h=>Dq 2 Y (Xx (ov Y) (ov Y) Za1 h_x)<|Dq 3 Y (Ze (ov Y) ZbX<|Q0<|Ji (o := 0) (o' := ((Int.toNat 1) * 1)) (Zz arL)<|Jb h_x)<|bE h fun y h_y h=>Dq 4 Y (Zw (Zao h_y)<|.cons (ov Y) (.b Y) .nil)<|D1 5 Zc Y<|D1 6 ZQ Y<|bE h fun x2 h_x2 h=>Dq 7 Y (Xx (ov Y) (ov Y) Za1 h_x2)<|Dq 8 Y (Ze (ov Y) ZbX<|Q0<|Ji (o := 0) (o' := ((Int.toNat 2) * 1)) (Zz arL)<|Jb h_x2)<|bE h fun y2 h_y2 h=>Dq 9 Y (Zw (Zao h_y2)<|.cons (ov Y) (.b Y) .nil)<|bE h fun q h_q h=>Dq 10 Y (Ze0 (ov Y) (ov Y) h_q)<|D2 11 Zgu Y<|D1 12 Q1 Y<|Dd<|?_
 obtain rfl := rt h
 exact Zp (Z5 Y (.one<|rb Y))
theorem Zgd {x : Int} {r : Int} (h : J3 x = some r) :
 CSpec Tryz.prog gl0 135 [.int .u16 x] (.int .i64 r) := by
 unfold J3 at h
 replace h := QF h
 refine So Tryz.func135 Y fun w0 A=>Tr<|Ra Y<|Za<|Zj<|QH (cw := md0) (by kernel_rfl)<|D1 0 Zc Y<|bE h fun q h_q h=>Dq 1 Y (Za5 (ov Y) (ov Y) h_q)<|bE h fun b h_b h=>Dq 2 Y (Zk6 (ov Y) (ov Y) ZlQ h_b)<|D1 3 Zc Y<|D2 4 Zby Y<|bE h fun b2 h_b2 h=>Dq 5 Y (Zk6 (ov Y) (ov Y) ZlQ h_b2)<|D2 6 ZX Y<|Dq 7 Y (QA (ov Y) tI5 tI3 Y)<|D1 8 Q1 Y<|Dd<|?_
 obtain rfl := rt h
 exact Zp (Z5 Y (.one<|rb Y))
theorem ZeV {w : Int} {r : Bool} (h : ZaR w = some r) :
 CSpec Tryz.prog gl0 103 [.int .u16 w] (.bool r) := by
 unfold ZaR at h
 replace h := QF h
 refine So Tryz.func103 Y fun w0 A=>Tr<|Ra Y<|Za<|Tr<|Rm Y<|R2 Zj1 Y<|Rm Y<|Rq Y (.guarded ((decide (w ≤ 4095)) == true) Y Y Y Y fun h => Zc<|ov Y)<|bE h fun y h_y h=>Rq Y (.guarded ((decide (w ≤ 4095)) == true) Y Y Y Y fun h => Zw (Zgd<|gdT h_y h)<|.cons (ow Y h) (.b Y) .nil)<|bE h fun q h_q h=>Rq Y (.guarded ((decide (w ≤ 4095)) == true) Y Y Y Y fun h => Za4 (ow Y h) (ov Y)<|gdT h_q h)<|Rq Y (.guarded ((decide (w ≤ 4095)) == true) Y Y Y Y fun h => ZbU (ow Y h)<|ov Y)<|Rq Y (ZaZ (ov Y) fun hp=>ow Y<|gT hp)<|Ra Y<|Za<|?_
 obtain rfl := rt h
 exact Zp (Z5 Y (.one<|rb Y))
theorem ZiW {f : Vector Int 64} {r : Int} (h : ZaL f = some r) :
 CSpec Tryz.prog gl0 105 [.rp (List.map C40 f.toList) 0] (.int .i64 r) := by
 unfold ZaL at h
 replace h := QF h
 refine So Tryz.func105 Y fun w0 A=>Tr<|Ra Y<|Za<|K1 0 Y<|Tr<|Ra Y<|Za<|I1 (fun n=>⟨[(3, .int .i64 n)], []⟩) h (fun h=>?_) fun n h=>?_
 ·
  refine Tr<|Rm Y<|Za<|Zg<|?_
  obtain ⟨r1, hl1, ho1⟩ := Xj h
  refine L2 (fun n2 i=>⟨[(0, .rp (List.map C40 f.toList) 0), (3, .int .i64 n2), (5, .int .i64 i)], []⟩) hl1 (ES []) fun n1 n2 i h=>?_
  unfold Je at h
  refine Tr<|R2 ZY Y<|Za<|Zj<|If h Y (fun h=>?_) fun h=>?_
  ·
   exact Zi<|Zj<|Zg<|K3 0 3 5 Y<|Tr<|Rm Y<|Ra Y<|Za<|K4 0 3 4 5 Y<|Zt<|Rm Y<|Rm Y<|Rm Y<|R2 ZX Y<|R1 ZQ Y<|bE h fun x h_x h=>Rq Y (Xx (ov Y) (ov Y) Za1 h_x)<|Rq Y (Ze (ov Y) ZbX<|Q0<|Ji (o := 0) (o' := ((i64 (i + 1)).toNat * 1)) (Zz arL)<|Jb h_x)<|bE h fun y h_y h=>Rq Y (Zw (Zao h_y)<|.cons (ov Y) (.b Y) .nil)<|R2 Zku Y<|Ra Y<|Za<|K3 0 3 5 Y<|Zt<|R2 ZX Y<|Rm Y<|Za<|⟨_, h, ES []⟩
  ·
   refine ZS<|?_
   replace h := lx h ▸ ho1
   exact ⟨_, h, ES []⟩
 ·
  refine Tr<|Rm Y<|Ra Y<|Za<|?_
  obtain rfl := rt h
  exact Zp (Z5 Y (.one<|rb Y))
theorem ZhR {f : Vector Int 64} {r : Int} (h : JM f = some r) :
 CSpec Tryz.prog gl0 106 [.rp (List.map C40 f.toList) 0] (.int .i64 r) := by
 unfold JM at h
 replace h := QF h
 refine So Tryz.func106 Y fun w0 A=>Tr<|Ra Y<|Za<|K1 0 Y<|Tr<|Ra Y<|Za<|I1 (fun n=>⟨[(3, .int .i64 n)], []⟩) h (fun h=>?_) fun n h=>?_
 ·
  refine Tr<|Rm Y<|Za<|Zg<|?_
  obtain ⟨r1, hl1, ho1⟩ := Xj h
  refine L2 (fun n2 i=>⟨[(0, .rp (List.map C40 f.toList) 0), (3, .int .i64 n2), (7, .int .i64 i)], []⟩) hl1 (ES []) fun n1 n2 i h=>?_
  unfold XC at h
  refine Tr<|R2 ZY Y<|Za<|Zj<|If h Y (fun h=>?_) fun h=>?_
  ·
   refine Zi<|I1 (fun n3=>⟨[(0, .rp (List.map C40 f.toList) 0), (3, .int .i64 n3), (7, .int .i64 i)], []⟩) h (fun h=>?_) fun n3 h=>?_
   ·
    refine Zg<|K3 0 3 7 Y<|Tr<|Rm Y<|Ra Y<|Za<|K4 0 3 4 7 Y<|Tr<|Ra Y<|Za<|Zg<|?_
    obtain ⟨r2, hl2, ho2⟩ := Xj h
    refine L2 (fun n4 k=>⟨[(0, .rp (List.map C40 f.toList) 0), (3, .int .i64 n4), (4, .int .i64 i), (5, .int .i64 k), (7, .int .i64 i)], []⟩) hl2 (ES []) fun n2 n4 k h=>?_
    unfold Xe at h
    refine Zj<|Tr<|Rm Y<|R2 Zjx Y<|Za<|K6 0 3 4 5 7 11 Y<|If h Y (fun h=>?_) fun h=>?_
    ·
     refine Zi<|Zj<|Zg<|K5 0 3 4 5 7 Y<|Tr<|Rm Y<|R2 Zby Y<|R2 Jc Y<|Ra Y<|Za<|K6 0 3 4 5 6 7 Y<|Tr<|Rm Y<|bE h fun q h_q h=>Rq Y (Ze0 (ov Y) (ov Y) h_q)<|R2 Zby Y<|Ra Y<|Za<|K6 0 3 4 5 6 7 Y<|Tr<|Rm Y<|Rm Y<|Rm Y<|R1 ZQ Y<|bE h fun x h_x h=>Rq Y (Xx (ov Y) (ov Y) Za1 h_x)<|Rq Y (Ze (ov Y) ZbX<|Q0<|Ji (o := 0) (o' := (i.toNat * 1)) (Zz arL)<|Jb h_x)<|Rm Y<|bE h fun q2 h_q2 h=>Rq Y (Za5 (ov Y) (ov Y) h_q2)<|R2 Zby Y<|R2 ZbU Y<|Rq Y (ZkP .neq (by simp) (ov Y) (ov Y) tB4)<|Za<|K6 0 3 4 5 7 30 Y<|If h Y (fun h=>?_) fun h=>?_
     ·
      exact K5 0 3 4 5 7 Y<|Zt<|Rm Y<|R2 Zku Y<|Ra Y<|Za<|K5 0 3 4 5 7 Y<|Zt<|Rm Y<|R2 Zcr Y<|Ra Y<|Za<|⟨_, h, ES []⟩
     ·
      exact Zi<|K5 0 3 4 5 7 Y<|Zt<|Rm Y<|R2 Zcr Y<|Ra Y<|Za<|⟨_, h, ES []⟩
    ·
     refine ZS<|?_
     replace h := lx h ▸ ho2
     exact ⟨_, h, ES []⟩
   ·
    exact Zt<|R2 ZX Y<|Rm Y<|Za<|⟨_, h, ES []⟩
  ·
   refine ZS<|?_
   replace h := lx h ▸ ho1
   exact ⟨_, h, ES []⟩
 ·
  refine Tr<|Rm Y<|Ra Y<|Za<|?_
  obtain rfl := rt h
  exact Zp (Z5 Y (.one<|rb Y))
theorem ZfK {f : Vector Int 64} {r : (List api_Flaw)} (h : Zab f = some r) :
 CSpec Tryz.prog gl0 66 [.agg (List.map C40 f.toList)] (.sl 149 (List.map R149 r)) := by
 unfold Zab at h
 replace h := QF h
 refine So Tryz.func66 Y fun w0 A=>Tr<|Rq Y (ZcB (cva<|ov Y) arL tZ_42<|arD fun _ => Y)<|Ra Y<|Za<|K1 1 Y<|Tr<|Ra Y<|Za<|I1 (fun out=>⟨[(1, .rp (List.map C40 f.toList) 0), (3, .own 0 out.length)], [some ⟨149, List.map R149 out⟩]⟩) h (fun h=>?_) fun out h=>?_
 ·
  refine Tr<|Rq Y (Q6 (ov Y) JW (Xc<|Zz arL) arL)<|Rm Y<|Za<|Zg<|?_
  obtain ⟨r1, hl1, ho1⟩ := Xj h
  refine L2 (fun out2 i=>⟨[(1, .rp (List.map C40 f.toList) 0), (3, .own 0 out2.length), (7, .agg (List.map C40 f.toList)), (8, .int .i64 i)], [some ⟨149, List.map R149 out2⟩]⟩) hl1 (ES [none]) fun n1 out2 i h=>?_
  unfold Ja at h
  refine Tr<|R2 ZY Y<|Za<|Zj<|If h Y (fun h=>?_) fun h=>?_
  ·
   refine Zi<|Zj<|Zg<|K4 1 3 7 8 Y<|Tr<|Rm Y<|bE h fun x h_x h=>Rq Y (Zj0 (ov Y) (ov Y) Za1 ZbX h_x)<|Ra Y<|Ra Y<|Za<|K6 1 3 4 5 7 8 Y<|Tr<|Rm Y<|R2 Zde Y<|Za<|K6 1 3 4 7 8 13 Y<|If h Y (fun h=>?_) fun h=>?_
   ·
    exact K5 1 3 4 7 8 Y<|Zt<|Rm Y<|Rm Y<|Rq Y (Jw (ys := [_, _]) Zi6 ZjE Zlh (.cons (cvs (ov Y)<|Zm Y)<|.cons (cvs (ov Y)<|Zm Y) .nil) Y)<|R_q (.sl 149<|List.map R149 ([(api_Flaw.mk i 5)] : List api_Flaw)) Y (Zal ZeQ (.cons (cva<|ov Y) Y (pwD Y) .nil) Y Y)<|bE h fun l h_l h=>Rx Y (XT (ov Y) (QY (ov Y) tZ_149) ZeQ Y Y Y (fun _=>Zb Y) Y h_l)<|Ra Y<|Za<|K4 1 3 7 8 Y<|Zt<|R2 ZX Y<|Rm Y<|Za<|⟨_, h, ES [some 0]⟩
   ·
    exact Zi<|K4 1 3 7 8 Y<|Zt<|R2 ZX Y<|Rm Y<|Za<|⟨_, h, ES [some 0]⟩
  ·
   refine ZS<|?_
   replace h := lx h ▸ ho1
   exact ⟨_, h, ES [some 0]⟩
 ·
  refine Zj<|Tr<|Rm Y<|Rq Y (ZfR (ov Y) Y Y ZeQ)<|R2 Zde Y<|Za<|K3 1 3 22 Y<|If h Y (fun h=>?_) fun h=>?_
  ·
   refine K1 3 Y<|Tr<|Rm Y<|Ra Y<|Za<|?_
   obtain rfl := rt h
   exact Zp (Z5 Y (.one<|.tmp Y<|View.ownM Y Y D149))
  ·
   refine Zi<|I1 (fun out3=>⟨[(1, .rp (List.map C40 f.toList) 0), (3, .own 0 out3.length)], [some ⟨149, List.map R149 out3⟩]⟩) h (fun h=>?_) fun out3 h=>?_
   ·
    refine Zj<|K2 1 3 Y<|QH (cw := md0) (by kernel_rfl)<|bE h fun x2 h_x2 h=>Dq 0 Y (Xx (ov Y) (ov Y) Za1 h_x2)<|Dq 1 Y (Ze (ov Y) ZbX<|Q0<|Ji (o := 0) (o' := ((Int.toNat 0) * 1)) (Zz arL)<|Jb h_x2)<|bE h fun y h_y h=>Dq 2 Y (Zw (Zeg h_y)<|.cons (ov Y) (.b Y) .nil)<|bE h fun q h_q h=>Dq 3 Y (Za4 (ov Y) (ov Y) h_q)<|bE h fun x3 h_x3 h=>Dq 4 Y (Xx (og (v := gv_frame_syncs) (k := .u16) (f := C40) (by simp [gl0]) fun _=>Y) (ov Y) Zqq h_x3)<|Dq 5 Y (Ze (ov Y) ZbX<|Q0<|Ji (o := 0) (o' := (q.toNat * 1)) (Zz arL)<|Jb h_x3)<|D2 6 Jc Y<|Dd<|K3 1 3 30 Y<|If h Y (fun h=>?_) fun h=>?_
    ·
     exact K2 1 3 Y<|Zt<|Rm Y<|Rq Y (Jw (ys := [_, _]) Zi6 ZjE Zlh (.cons (cvs (ov Y)<|Zm Y)<|.cons (cvs (ov Y)<|Zm Y) .nil) Y)<|R_q (.sl 149<|List.map R149 ([(api_Flaw.mk 0 1)] : List api_Flaw)) Y (Zal ZeQ (.cons (cva<|ov Y) Y (pwD Y) .nil) Y Y)<|bE h fun l2 h_l2 h=>Rx Y (XT (ov Y) (QY (ov Y) tZ_149) ZeQ Y Y Y (fun _=>Zb Y) Y h_l2)<|Ra Y<|Za<|⟨_, h, ES [some 0]⟩
    ·
     exact Zi<|⟨_, h, ES [some 0]⟩
   ·
    refine I1 (fun out4=>⟨[(1, .rp (List.map C40 f.toList) 0), (3, .own 0 out4.length)], [some ⟨149, List.map R149 out4⟩]⟩) h (fun h=>?_) fun out4 h=>?_
    ·
     refine Tr<|Ra Y<|Za<|Zg<|?_
     obtain ⟨r2, hl2, ho2⟩ := Xj h
     refine L2 (fun out5 i2=>⟨[(1, .rp (List.map C40 f.toList) 0), (3, .own 0 out5.length), (6, .int .i64 i2)], [some ⟨149, List.map R149 out5⟩]⟩) hl2 (ES [some 0]) fun n2 out5 i2 h=>?_
     unfold Jj at h
     refine Zj<|Tr<|Rm Y<|R2 ZY Y<|Za<|K4 1 3 6 36 Y<|If h Y (fun h=>?_) fun h=>?_
     ·
      refine Zi<|Zj<|Zg<|K3 1 3 6 Y<|Tr<|Rm Y<|bE h fun x4 h_x4 h=>Rq Y (Xx (ov Y) (ov Y) Za1 h_x4)<|Rq Y (Ze (ov Y) ZbX<|Q0<|Ji (o := 0) (o' := (i2.toNat * 1)) (Zz arL)<|Jb h_x4)<|bE h fun y2 h_y2 h=>Rq Y (Zw (ZeV h_y2)<|.cons (ov Y) (.b Y) .nil)<|R1 J7 Y<|Za<|K4 1 3 6 43 Y<|If h Y (fun h=>?_) fun h=>?_
      ·
       exact K3 1 3 6 Y<|Zt<|Rm Y<|Rm Y<|Rq Y (Jw (ys := [_, _]) Zi6 ZjE Zlh (.cons (cvs (ov Y)<|Zm Y)<|.cons (cvs (ov Y)<|Zm Y) .nil) Y)<|R_q (.sl 149<|List.map R149 ([(api_Flaw.mk i2 2)] : List api_Flaw)) Y (Zal ZeQ (.cons (cva<|ov Y) Y (pwD Y) .nil) Y Y)<|bE h fun l3 h_l3 h=>Rx Y (XT (ov Y) (QY (ov Y) tZ_149) ZeQ Y Y Y (fun _=>Zb Y) Y h_l3)<|Ra Y<|Za<|K3 1 3 6 Y<|Zt<|Rm Y<|R2 ZX Y<|Ra Y<|Za<|⟨_, h, ES [some 0]⟩
      ·
       exact Zi<|K3 1 3 6 Y<|Zt<|Rm Y<|R2 ZX Y<|Ra Y<|Za<|⟨_, h, ES [some 0]⟩
     ·
      refine ZS<|?_
      replace h := lx h ▸ ho2
      exact ⟨_, h, ES [some 0]⟩
    ·
     refine I1 (fun out6=>⟨[(1, .rp (List.map C40 f.toList) 0), (3, .own 0 out6.length)], [some ⟨149, List.map R149 out6⟩]⟩) h (fun h=>?_) fun out6 h=>?_
     ·
      refine Tr<|bE h fun x5 h_x5 h=>Rq Y (Xx (ov Y) (ov Y) Za1 h_x5)<|Rq Y (Ze (ov Y) ZbX<|Q0<|Ji (o := 0) (o' := ((Int.toNat 61) * 1)) (Zz arL)<|Jb h_x5)<|bE h fun y3 h_y3 h=>Rq Y (Zw (Zao h_y3)<|.cons (ov Y) (.b Y) .nil)<|bE h fun y4 h_y4 h=>Rq Y (Zw (ZiW h_y4)<|.cons (ov Y) (.b Y) .nil)<|R2 Jc Y<|Za<|K3 1 3 53 Y<|If h Y (fun h=>?_) fun h=>?_
      ·
       exact K2 1 3 Y<|Zt<|Rm Y<|Rq Y (Jw (ys := [_, _]) Zi6 ZjE Zlh (.cons (cvs (ov Y)<|Zm Y)<|.cons (cvs (ov Y)<|Zm Y) .nil) Y)<|R_q (.sl 149<|List.map R149 ([(api_Flaw.mk 61 3)] : List api_Flaw)) Y (Zal ZeQ (.cons (cva<|ov Y) Y (pwD Y) .nil) Y Y)<|bE h fun l4 h_l4 h=>Rx Y (XT (ov Y) (QY (ov Y) tZ_149) ZeQ Y Y Y (fun _=>Zb Y) Y h_l4)<|Ra Y<|Za<|⟨_, h, ES [some 0]⟩
      ·
       exact Zi<|⟨_, h, ES [some 0]⟩
     ·
      refine Zj<|Zj<|QH (cw := md0) (by kernel_rfl)<|bE h fun x6 h_x6 h=>Dq 0 Y (Xx (ov Y) (ov Y) Za1 h_x6)<|Dq 1 Y (Ze (ov Y) ZbX<|Q0<|Ji (o := 0) (o' := ((Int.toNat 62) * 1)) (Zz arL)<|Jb h_x6)<|bE h fun y5 h_y5 h=>Dq 2 Y (Zw (Zao h_y5)<|.cons (ov Y) (.b Y) .nil)<|bE h fun q2 h_q2 h=>Dq 3 Y (Ze0 (ov Y) (ov Y) h_q2)<|bE h fun x7 h_x7 h=>Dq 4 Y (Xx (ov Y) (ov Y) Za1 h_x7)<|Dq 5 Y (Ze (ov Y) ZbX<|Q0<|Ji (o := 0) (o' := ((Int.toNat 63) * 1)) (Zz arL)<|Jb h_x7)<|bE h fun y6 h_y6 h=>Dq 6 Y (Zw (Zao h_y6)<|.cons (ov Y) (.b Y) .nil)<|D2 7 Zgu Y<|bE h fun y7 h_y7 h=>Dq 8 Y (Zw (ZhR h_y7)<|.cons (ov Y) (.b Y) .nil)<|D2 9 Jc Y<|Dd<|K2 3 67 Y<|If h Y (fun h=>?_) fun h=>?_
      ·
       refine K1 3 Y<|Zt<|Rm Y<|Rq Y (Jw (ys := [_, _]) Zi6 ZjE Zlh (.cons (cvs (ov Y)<|Zm Y)<|.cons (cvs (ov Y)<|Zm Y) .nil) Y)<|R_q (.sl 149<|List.map R149 ([(api_Flaw.mk 62 4)] : List api_Flaw)) Y (Zal ZeQ (.cons (cva<|ov Y) Y (pwD Y) .nil) Y Y)<|bE h fun l5 h_l5 h=>Rx Y (XT (ov Y) (QY (ov Y) tZ_149) ZeQ Y Y Y (fun _=>Zb Y) Y h_l5)<|Ra Y<|Za<|K1 3 Y<|Tr<|Rm Y<|Ra Y<|Za<|?_
       obtain rfl := rt h
       exact Zp (Z5 Y (.one<|.tmp Y<|View.ownM Y Y D149))
      ·
       refine Zi<|K1 3 Y<|Tr<|Rm Y<|Ra Y<|Za<|?_
       obtain rfl := rt h
       exact Zp (Z5 Y (.one<|.tmp Y<|View.ownM Y Y D149))
theorem Zfk {f : Vector Int 64} {r : Int × Bool} (h : X8 f = some r) :
 CSpec Tryz.prog gl0 67 [.agg (List.map C40 f.toList)] (.tuple [.int .i64 r.1, .bool r.2]) := by
 unfold X8 at h
 replace h := QF h
 refine So Tryz.func67 Y fun w0 A=>Tr<|Rq Y (ZcB (cva<|ov Y) arL tZ_42<|arD fun _ => Y)<|Ra Y<|Ra Y<|Za<|Zj<|K1 1 Y<|Tr<|bE h fun x h_x h=>Rq Y (Xx (ov Y) (ov Y) Za1 h_x)<|Rq Y (Ze (ov Y) ZbX<|Q0<|Ji (o := 0) (o' := ((Int.toNat 1) * 1)) (Zz arL)<|Jb h_x)<|bE h fun y h_y h=>Rq Y (Zw (ZeV h_y)<|.cons (ov Y) (.b Y) .nil)<|R1 J7 Y<|Rm Y<|bE h fun x2 h_x2 h=>Rq Y (.guarded ((!y) == false) Y Y Y Y fun h => Xx (ov Y) (ov Y) Za1<|gdT h_x2 h)<|Rq Y (.guarded ((!y) == false) Y Y Y Y fun h => Ze (ow Y h) ZbX<|Q0<|Ji (o := 0) (o' := ((Int.toNat 2) * 1)) (Zz arL)<|Jb<|gdT h_x2 h)<|bE h fun y2 h_y2 h=>Rq Y (.guarded ((!y) == false) Y Y Y Y fun h => Zw (ZeV<|gdT h_y2 h)<|.cons (ow Y h) (.b Y) .nil)<|Rq Y (.guarded ((!y) == false) Y Y Y Y fun h => J7<|ow Y h)<|Rq Y (ZhW (ov Y) fun hp=>ow Y<|gF hp)<|Za<|K2 1 13 Y<|If h Y (fun h=>?_) fun h=>?_
 ·
  refine K0<|Tr<|Ra Y<|Ra Y<|Za<|?_
  obtain rfl := rt h
  exact Zp (Z5 Y (.two (rb Y)<|rb Y))
 ·
  refine Zi<|K1 1 Y<|Tr<|bE h fun y3 h_y3 h=>Rq Y (Zw (Zeg h_y3)<|.cons (ov Y) (.b Y) .nil)<|Ra Y<|Ra Y<|Za<|?_
  obtain rfl := rt h
  exact Zp (Z5 Y (.two (rb Y)<|rb Y))
theorem Ziw {number : Int} {memories : Int} {copies : Int} {r : (List Int)} (h : Zaj number memories copies = some r) :
 CSpec Tryz.prog gl0 68 [.int .i64 number, .int .i64 memories, .int .i64 copies] (.sl 3 (List.map R3 r)) := by
 unfold Zaj at h
 replace h := QF h
 refine So Tryz.func68 Y fun w0 A=>Tr<|Ra Y<|Za<|K3 0 1 2 Y<|Tr<|Ra Y<|Za<|I1 (fun out=>⟨[(7, .own 0 out.length)], [some ⟨3, List.map R3 out⟩]⟩) h (fun h=>?_) fun out h=>?_
 ·
  refine Tr<|Rm Y<|Rm Y<|Za<|Zg<|?_
  obtain ⟨r1, hl1, ho1⟩ := Xj h
  refine L2 (fun out2 i=>⟨[(0, .int .i64 number), (1, .int .i64 memories), (7, .own 0 out2.length), (9, .int .i64 copies), (10, .int .i64 i)], [some ⟨3, List.map R3 out2⟩]⟩) hl1 (ES [none]) fun n1 out2 i h=>?_
  unfold X3 at h
  refine Tr<|R2 ZY Y<|Za<|Zj<|If h Y (fun h=>?_) fun h=>?_
  ·
   exact Zi<|Zj<|Zg<|K5 0 1 7 9 10 Y<|Tr<|Rm Y<|Ra Y<|Za<|K6 0 1 7 8 9 10 Y<|Zt<|Rm Y<|Rm Y<|Rm Y<|R2 ZX Y<|Rm Y<|bE h fun q h_q h=>Rq Y (Za4 (ov Y) (ov Y) h_q)<|R_q (.sl 3<|List.map R3 ([q] : List Int)) Y (Zal Q3 (.cons (cvs (ov Y)<|Zm Y) Y (.cons (.b Y) .nil) .nil) Y Y)<|bE h fun l h_l h=>Rx Y (XT (ov Y) (QY (ov Y) tZ_3) Q3 Y Y Y (fun _=>Zb Y) Y h_l)<|Ra Y<|Za<|K5 0 1 7 9 10 Y<|Zt<|R2 ZX Y<|Rm Y<|Za<|⟨_, h, ES [some 0]⟩
  ·
   refine ZS<|?_
   replace h := lx h ▸ ho1
   exact ⟨_, h, ES [some 0]⟩
 ·
  refine Tr<|Rm Y<|Ra Y<|Za<|?_
  obtain rfl := rt h
  exact Zp (Z5 Y (.one<|.tmp Y<|View.ownM Y Y D3))
theorem Za7 {b : ring_bank} {k : Int} {r : Bool} (h : QK b k = some r) :
 CSpec Tryz.prog gl0 107 [.rp [.sl 26 (List.map R26 b.memories), .sl 105 (List.map R105 b.spots)] 0, .int .i64 k] (.bool r) := by
 unfold QK at h
 replace h := QF h
 refine So Tryz.func107 Y fun w0 A=>Tr<|Ra Y<|Za<|Zj<|QH (cw := md0) (by kernel_rfl)<|D1 0 Zc Y<|D1 1 ZQ Y<|Dq 2 Y (ZT (ov Y) Zfd)<|Dq 3 Y (Ze (ov Y) ZlN Y)<|D1 4 Zc Y<|bE h fun x h_x h=>Dq 5 Y (Ql (ov Y) (ov Y) ZlG h_x)<|Dq 6 Y (ZT (ov Y) Zgc)<|Dq 7 Y (Ze (ov Y) tS3 Y)<|D2 8 ZY Y<|D1 9 Zc Y<|Dq 10 Y (.guarded ((decide (x.sector < 0)) == false) Y Y Y Y fun h => Zc<|ov Y)<|Dq 11 Y (.guarded ((decide (x.sector < 0)) == false) Y Y Y Y fun h => ZQ<|ow Y h)<|Dq 12 Y (.guarded ((decide (x.sector < 0)) == false) Y Y Y Y fun h => ZT (ow Y h) Zfd)<|Dq 13 Y (.guarded ((decide (x.sector < 0)) == false) Y Y Y Y fun h => Ze (ow Y h) ZlN Y)<|Dq 14 Y (.guarded ((decide (x.sector < 0)) == false) Y Y Y Y fun h => Zc<|ov Y)<|bE h fun x2 h_x2 h=>Dq 15 Y (.guarded ((decide (x.sector < 0)) == false) Y Y Y Y fun h => Ql (ow Y h) (ow Y h) ZlG<|gdT h_x2 h)<|Dq 16 Y (.guarded ((decide (x.sector < 0)) == false) Y Y Y Y fun h => ZT (ow Y h) Zg4)<|Dq 17 Y (.guarded ((decide (x.sector < 0)) == false) Y Y Y Y fun h => Ze (ow Y h) tS3 Y)<|Dq 18 Y (.guarded ((decide (x.sector < 0)) == false) Y Y Y Y fun h => Zc<|ov Y)<|Dq 19 Y (.guarded ((decide (x.sector < 0)) == false) Y Y Y Y fun h => ZQ<|ow Y h)<|Dq 20 Y (.guarded ((decide (x.sector < 0)) == false) Y Y Y Y fun h => ZT (ow Y h) ZcN)<|Dq 21 Y (.guarded ((decide (x.sector < 0)) == false) Y Y Y Y fun h => Ze (ow Y h) ZjN Y)<|Dq 22 Y (.guarded ((decide (x.sector < 0)) == false) Y Y Y Y fun h => Zc<|ov Y)<|bE h fun x3 h_x3 h=>Dq 23 Y (.guarded ((decide (x.sector < 0)) == false) Y Y Y Y fun h => Ql (ow Y h) (ow Y h) Zbh<|gdT h_x3 h)<|Dq 24 Y (.guarded ((decide (x.sector < 0)) == false) Y Y Y Y fun h => ZT (ow Y h) Zgw)<|Dq 25 Y (.guarded ((decide (x.sector < 0)) == false) Y Y Y Y fun h => Ze (ow Y h) tS3 Y)<|Dq 26 Y (.guarded ((decide (x.sector < 0)) == false) Y Y Y Y fun h => ZbU (ow Y h)<|ow Y h)<|Dq 27 Y (ZhW (ov Y) fun hp=>ow Y<|gF hp)<|D1 28 Q1 Y<|Dd<|?_
 obtain rfl := rt h
 exact Zp (Z5 Y (.one<|rb Y))
theorem ZbT {b : ring_bank} {k : Int} {r : Int} (h : Q7 b k = some r) :
 CSpec Tryz.prog gl0 108 [.rp [.sl 26 (List.map R26 b.memories), .sl 105 (List.map R105 b.spots)] 0, .int .i64 k] (.int .i64 r) := by
 unfold Q7 at h
 replace h := QF h
 refine So Tryz.func108 Y fun w0 A=>Tr<|Ra Y<|Za<|K2 0 1 Y<|Tr<|Rm Y<|R1 ZQ Y<|Rq Y (ZT (ov Y) ZcN)<|Rq Y (Ze (ov Y) ZjN Y)<|Rm Y<|bE h fun x h_x h=>Rq Y (Ql (ov Y) (ov Y) Zbh h_x)<|Rq Y (Q6 (ov Y) XS Y Y)<|Rx Y (Qf (row := [_, _, _, _, _]) 0 Y Zc4 Y tZ_26)<|Rx Y (Zh (ov Y) (ov Y) (ZC XS Y) Y Y Y (Nat.le_of_ble_eq_true Y) (Zb Y) Y)<|Za<|K3 0 1 5 Y<|Tr<|Rq Y (Zf (ov Y) Y Y ZF)<|Rq Y (Zu (ov Y) Y Y Y Qc Y)<|Rl tZ_49 ZZ Y<|Ra Y<|Za<|J0 (fun j => (.inr j)) ⟨[], []⟩ h (fun h=>?_) fun h=>?_
 ·
  refine K4 0 1 5 6 Y<|Tr<|Rm Y<|Rm Y<|Za<|Zg<|?_
  obtain ⟨r1, hl1, ho1⟩ := Xj h
  refine L1 (fun i=>⟨[(0, .rp [.sl 26 (List.map R26 b.memories), .sl 105 (List.map R105 b.spots)] 0), (1, .int .i64 k), (5, .ptr 0 1 0 0), (6, .int .i64 (x.Sectors.length : Int)), (19, .int .i64 (x.Sectors.length : Int)), (20, .int .i64 i)], [some ⟨26, [[.int .i64 x.Slots, .int .i64 x.Limit, .sl 49 (List.map R49 x.Sectors), .sl 3 (List.map R3 x.Wear), .sl 4 (List.map R4 x.Bad)]]⟩]⟩) hl1 (ES [some 0]) fun n1 i h=>?_
  unfold Xn at h
  refine Tr<|R2 ZY Y<|Za<|Zj<|If h Y (fun h=>?_) fun h=>?_
  ·
   refine Zi<|Zj<|Zg<|K6 0 1 5 6 19 20 Y<|Tr<|Rm Y<|Ra Y<|Za<|K7 0 1 5 6 7 19 20 Y<|Tr<|Rm Y<|R1 ZQ Y<|Rq Y (ZT (ov Y) Zfd)<|Rq Y (Ze (ov Y) ZlN Y)<|Rm Y<|bE h fun x2 h_x2 h=>Rq Y (Ql (ov Y) (ov Y) ZlG h_x2)<|Rq Y (ZT (ov Y) Zgc)<|Rq Y (Ze (ov Y) tS3 Y)<|R2 ZX Y<|Rm Y<|R2 ZX Y<|Rm Y<|bE h fun q h_q h=>Rq Y (Za4 (ov Y) (ov Y) h_q)<|Ra Y<|Za<|Zj<|K7 0 1 5 6 8 19 20 Y<|QH (cw := md0) (by kernel_rfl)<|Dq 0 Y (Zf (ov Y) Y Y Zes)<|Dq 1 Y (Zu (ov Y) Y Y Y Zjw Y)<|D1 2 Zc Y<|bE h fun x3 h_x3 h=>Dq 3 Y (Ql (ov Y) (ov Y) ZfA h_x3)<|Dq 4 Y (Ze (ov Y) tS4 Y)<|D1 5 J7 Y<|D1 6 Zc Y<|Dq 7 Y (.guarded ((!x3) == true) Y Y Y Y fun h => Zf (ov Y) Y Y ZdZ)<|Dq 8 Y (.guarded ((!x3) == true) Y Y Y Y fun h => Zu (ow Y h) Y Y Y Zje Y)<|Dq 9 Y (.guarded ((!x3) == true) Y Y Y Y fun h => Zc<|ov Y)<|bE h fun x4 h_x4 h=>Dq 10 Y (.guarded ((!x3) == true) Y Y Y Y fun h => Ql (ow Y h) (ow Y h) Q3<|gdT h_x4 h)<|Dq 11 Y (.guarded ((!x3) == true) Y Y Y Y fun h => Ze (ow Y h) tS3 Y)<|Dq 12 Y (.guarded ((!x3) == true) Y Y Y Y fun h => Zf (ov Y) Y Y ZjD)<|Dq 13 Y (.guarded ((!x3) == true) Y Y Y Y fun h => Zu (ow Y h) Y Y Y tS3 Y)<|Dq 14 Y (.guarded ((!x3) == true) Y Y Y Y fun h => ZY (ow Y h)<|ow Y h)<|Dq 15 Y (ZaZ (ov Y) fun hp=>ow Y<|gT hp)<|Dd<|K8 0 1 5 6 8 19 20 51 Y<|If h Y (fun h=>?_) fun h=>?_
   ·
    refine K1 8 Y<|Tr<|Rm Y<|Ra Y<|Za<|?_
    replace h := lx h ▸ ho1
    obtain rfl := rt h
    exact Zp (Z5 Y (.one<|rb Y))
   ·
    exact Zi<|K6 0 1 5 6 19 20 Y<|Zt<|R2 ZX Y<|Rm Y<|Za<|⟨_, h, ES [some 0]⟩
  ·
   refine ZS<|?_
   replace h := lx h ▸ ho1
   exact ⟨(), h, ES []⟩
 ·
  replace h := elr h
  replace h := t0i h
  refine Tr<|Ra Y<|Za<|?_
  obtain rfl := rt h
  exact Zp (Z5 Y (.one<|rb Y))
theorem Zct {b : ring_bank} {k : Int} {sector : Int} {r : Int} (h : QE b k sector = some r) :
 CSpec Tryz.prog gl0 109 [.rp [.sl 26 (List.map R26 b.memories), .sl 105 (List.map R105 b.spots)] 0, .int .i64 k, .int .i64 sector] (.int .i64 r) := by
 unfold QE at h
 replace h := QF h
 refine So Tryz.func109 Y fun w0 A=>Tr<|Ra Y<|Za<|K3 0 1 2 Y<|Tr<|Ra Y<|Za<|I1 (fun most=>⟨[(7, .int .i64 most)], []⟩) h (fun h=>?_) fun most h=>?_
 ·
  refine Tr<|Rm Y<|R1 ZQ Y<|Rq Y (ZT (ov Y) ZcN)<|Rq Y (Ze (ov Y) ZjN Y)<|Rm Y<|bE h fun x h_x h=>Rq Y (Ql (ov Y) (ov Y) Zbh h_x)<|Rq Y (ZT (ov Y) ZF)<|Rq Y (Ze (ov Y) Qc Y)<|Rl tZ_49 ZZ Y<|Rm Y<|Za<|Zg<|?_
  obtain ⟨r1, hl1, ho1⟩ := Xj h
  refine L2 (fun most2 i=>⟨[(2, .int .i64 sector), (7, .int .i64 most2), (20, .sl 49 (List.map R49 x.Sectors)), (21, .int .i64 (x.Sectors.length : Int)), (22, .int .i64 i)], []⟩) hl1 (ES []) fun n1 most2 i h=>?_
  unfold QN at h
  refine Tr<|R2 ZY Y<|Za<|Zj<|If h Y (fun h=>?_) fun h=>?_
  ·
   refine Zi<|Zj<|Zg<|K5 2 7 20 21 22 Y<|Tr<|Rm Y<|bE h fun x2 h_x2 h=>Rq Y (Ql (ov Y) (ov Y) ZZ h_x2)<|Rq Y (Ze (ov Y) ZgI Y)<|Ra Y<|Ra Y<|Za<|K7 2 7 8 9 20 21 22 Y<|Tr<|Rm Y<|bE h fun y h_y h=>Rq Y (Zw (Zb4 h_y)<|.cons (ov Y) (.b Y) .nil)<|Rm Y<|Rq Y (Zn (ov Y) Y)<|Rq Y (Zn (ov Y) Y)<|Rq Y (Zn (ov Y) Y)<|Ra Y<|Ra Y<|Ra Y<|Za<|K8 2 7 8 10 12 20 21 22 Y<|Tr<|Rm Y<|Rm Y<|Rq Y (.guarded (y.2.2 == true) Y Y Y Y fun h => Zc<|ov Y)<|Rq Y (.guarded (y.2.2 == true) Y Y Y Y fun h => Zc<|ov Y)<|Rq Y (.guarded (y.2.2 == true) Y Y Y Y fun h => Jc (ow Y h)<|ow Y h)<|Rq Y (ZaZ (ov Y) fun hp=>ow Y<|gT hp)<|Za<|K7 2 7 10 20 21 22 38 Y<|If h Y (fun h=>?_) fun h=>?_
   ·
    exact K6 2 7 10 20 21 22 Y<|Zt<|Rm Y<|Rm Y<|Rq Y (ZnU (ov Y) (ov Y) Y)<|Ra Y<|Za<|K5 2 7 20 21 22 Y<|Zt<|R2 ZX Y<|Rm Y<|Za<|⟨_, h, ES []⟩
   ·
    exact Zi<|K5 2 7 20 21 22 Y<|Zt<|R2 ZX Y<|Rm Y<|Za<|⟨_, h, ES []⟩
  ·
   refine ZS<|?_
   replace h := lx h ▸ ho1
   exact ⟨_, h, ES []⟩
 ·
  refine Tr<|Rm Y<|R2 ZX Y<|Ra Y<|Za<|?_
  obtain rfl := rt h
  exact Zp (Z5 Y (.one<|rb Y))
theorem ZgU {b : ring_bank} {l : List Int} {r : Int} (h : X5 b l = some r) :
 CSpec Tryz.prog gl0 69 [.rp [.sl 26 (List.map R26 b.memories), .sl 105 (List.map R105 b.spots)] 0, .sl 3 (List.map R3 l)] (.int .i64 r) := by
 unfold X5 at h
 replace h := QF h
 refine So Tryz.func69 Y fun w0 A=>Tr<|Ra Y<|Za<|J0 (fun j => (.inr j)) ⟨[(0, .rp [.sl 26 (List.map R26 b.memories), .sl 105 (List.map R105 b.spots)] 0), (1, .sl 3 (List.map R3 l))], []⟩ h (fun h=>?_) fun h=>?_
 ·
  refine K2 0 1 Y<|Tr<|Rm Y<|Rl tZ_3 Q3 Y<|Rm Y<|Za<|Zg<|?_
  obtain ⟨r1, hl1, ho1⟩ := Xj h
  refine L1 (fun i=>⟨[(0, .rp [.sl 26 (List.map R26 b.memories), .sl 105 (List.map R105 b.spots)] 0), (1, .sl 3 (List.map R3 l)), (9, .sl 3 (List.map R3 l)), (10, .int .i64 (l.length : Int)), (11, .int .i64 i)], []⟩) hl1 (ES []) fun n1 i h=>?_
  unfold Q9 at h
  refine Tr<|R2 ZY Y<|Za<|Zj<|If h Y (fun h=>?_) fun h=>?_
  ·
   refine Zi<|Zj<|Zg<|K5 0 1 9 10 11 Y<|Tr<|bE h fun x h_x h=>Rq Y (Ql (ov Y) (ov Y) Q3 h_x)<|Rq Y (Ze (ov Y) tS3 Y)<|Ra Y<|Za<|K6 0 1 6 9 10 11 Y<|Tr<|Rm Y<|Rm Y<|bE h fun y h_y h=>Rq Y (Zw (Za7 h_y)<|.cons (ov Y) (.b Y)<|.cons (ov Y) (.b Y) .nil)<|Rm Y<|Rq Y (.guarded (y == true) Y Y Y Y fun h => Zc<|ov Y)<|Rq Y (.guarded (y == true) Y Y Y Y fun h => Zc<|ov Y)<|bE h fun y2 h_y2 h=>Rq Y (.guarded (y == true) Y Y Y Y fun h => Zw (ZbT<|gdT h_y2 h)<|.cons (ow Y h) (.b Y)<|.cons (ow Y h) (.b Y) .nil)<|Rq Y (.guarded (y == true) Y Y Y Y fun h => ZY (ow Y h)<|ov Y)<|Rq Y (ZaZ (ov Y) fun hp=>ow Y<|gT hp)<|Za<|K6 0 1 9 10 11 23 Y<|If h Y (fun h=>?_) fun h=>?_
   ·
    refine K0<|Tr<|Ra Y<|Za<|?_
    replace h := lx h ▸ ho1
    obtain rfl := rt h
    exact Zp (Z5 Y (.one<|rb Y))
   ·
    exact Zi<|K5 0 1 9 10 11 Y<|Zt<|R2 ZX Y<|Rm Y<|Za<|⟨_, h, ES []⟩
  ·
   refine ZS<|?_
   replace h := lx h ▸ ho1
   exact ⟨(), h, ES []⟩
 ·
  replace h := elr h
  replace h := t0i h
  refine J0 (fun j => (.inr j)) ⟨[], []⟩ h (fun h=>?_) fun h=>?_
  ·
   refine Tr<|Rm Y<|Rl tZ_3 Q3 Y<|Rm Y<|Za<|Zg<|?_
   obtain ⟨r2, hl2, ho2⟩ := Xj h
   refine L1 (fun i2=>⟨[(0, .rp [.sl 26 (List.map R26 b.memories), .sl 105 (List.map R105 b.spots)] 0), (25, .sl 3 (List.map R3 l)), (26, .int .i64 (l.length : Int)), (27, .int .i64 i2)], []⟩) hl2 (ES []) fun n2 i2 h=>?_
   unfold Xa at h
   refine Tr<|R2 ZY Y<|Za<|Zj<|If h Y (fun h=>?_) fun h=>?_
   ·
    refine Zi<|Zj<|Zg<|K4 0 25 26 27 Y<|Tr<|bE h fun x2 h_x2 h=>Rq Y (Ql (ov Y) (ov Y) Q3 h_x2)<|Rq Y (Ze (ov Y) tS3 Y)<|Ra Y<|Za<|K5 0 8 25 26 27 Y<|Tr<|Rm Y<|Rm Y<|bE h fun y3 h_y3 h=>Rq Y (Zw (Za7 h_y3)<|.cons (ov Y) (.b Y)<|.cons (ov Y) (.b Y) .nil)<|Rm Y<|Rq Y (.guarded (y3 == true) Y Y Y Y fun h => Zc<|ov Y)<|Rq Y (.guarded (y3 == true) Y Y Y Y fun h => Zc<|ov Y)<|Rq Y (.guarded (y3 == true) Y Y Y Y fun h => Zc<|ov Y)<|Rq Y (.guarded (y3 == true) Y Y Y Y fun h => Zc<|ov Y)<|bE h fun y4 h_y4 h=>Rq Y (.guarded (y3 == true) Y Y Y Y fun h => Zw (ZbT<|gdT h_y4 h)<|.cons (ow Y h) (.b Y)<|.cons (ow Y h) (.b Y) .nil)<|bE h fun y5 h_y5 h=>Rq Y (.guarded (y3 == true) Y Y Y Y fun h => Zw (Zct<|gdT h_y5 h)<|.cons (ow Y h) (.b Y)<|.cons (ow Y h) (.b Y)<|.cons (ow Y h) (.b Y) .nil)<|Rq Y (.guarded (y3 == true) Y Y Y Y fun h => Zde (ow Y h)<|ov Y)<|Rq Y (ZaZ (ov Y) fun hp=>ow Y<|gT hp)<|Za<|K5 0 25 26 27 42 Y<|If h Y (fun h=>?_) fun h=>?_
    ·
     refine K0<|Tr<|Ra Y<|Za<|?_
     replace h := lx h ▸ ho2
     obtain rfl := rt h
     exact Zp (Z5 Y (.one<|rb Y))
    ·
     exact Zi<|K4 0 25 26 27 Y<|Zt<|R2 ZX Y<|Rm Y<|Za<|⟨_, h, ES []⟩
   ·
    refine ZS<|?_
    replace h := lx h ▸ ho2
    exact ⟨(), h, ES []⟩
  ·
   replace h := elr h
   replace h := t0i h
   refine Tr<|Ra Y<|Za<|?_
   obtain rfl := rt h
   exact Zp (Z5 Y (.one<|rb Y))
theorem ZjH {f : Vector Int 64} {r : Bool} (h : Zbx f = some r) :
 CSpec Tryz.prog gl0 110 [.rp (List.map C40 f.toList) 0] (.bool r) := by
 unfold Zbx at h
 replace h := QF h
 refine So Tryz.func110 Y fun w0 A=>Tr<|Ra Y<|Za<|J0 (fun j => (.inr j)) ⟨[], []⟩ h (fun h=>?_) fun h=>?_
 ·
  refine K1 0 Y<|Tr<|Rm Y<|Za<|Zg<|?_
  obtain ⟨r1, hl1, ho1⟩ := Xj h
  refine L1 (fun i=>⟨[(0, .rp (List.map C40 f.toList) 0), (4, .int .i64 i)], []⟩) hl1 (ES []) fun n1 i h=>?_
  unfold JE at h
  refine Tr<|R2 ZY Y<|Za<|Zj<|If h Y (fun h=>?_) fun h=>?_
  ·
   refine Zi<|Zj<|Zg<|K2 0 4 Y<|Tr<|Rm Y<|Ra Y<|Za<|K3 0 3 4 Y<|Tr<|Rm Y<|Rm Y<|R1 ZQ Y<|bE h fun x h_x h=>Rq Y (Xx (ov Y) (ov Y) Za1 h_x)<|Rq Y (Ze (ov Y) ZbX<|Q0<|Ji (o := 0) (o' := (i.toNat * 1)) (Zz arL)<|Jb h_x)<|R2 Zde Y<|Za<|K3 0 4 12 Y<|If h Y (fun h=>?_) fun h=>?_
   ·
    refine K0<|Tr<|Ra Y<|Za<|?_
    replace h := lx h ▸ ho1
    obtain rfl := rt h
    exact Zp (Z5 Y (.one<|rb Y))
   ·
    exact Zi<|K2 0 4 Y<|Zt<|R2 ZX Y<|Rm Y<|Za<|⟨_, h, ES []⟩
  ·
   refine ZS<|?_
   replace h := lx h ▸ ho1
   exact ⟨(), h, ES []⟩
 ·
  replace h := elr h
  replace h := t0i h
  refine Tr<|Ra Y<|Za<|?_
  obtain rfl := rt h
  exact Zp (Z5 Y (.one<|rb Y))
theorem Zf1 {p : Vector Int 96} {i : Int} {w : Int} {r : (Vector Int 96)} (h : X4 p i w = some r) :
 GSpec Tryz.prog gl0 136 [.ptr 0 1 0 0, .int .i64 i, .int .u16 w] [some ⟨157, [(List.map C5 p.toList)]⟩] (.tuple []) [some ⟨157, [(List.map C5 r.toList)]⟩] := by
 unfold X4 at h
 replace h := QF h
 refine QO (by kernel_rfl) Tryz.func136 Y Y<|?_
 intro w0 A W φ0
 refine Tr<|Rm Y<|bE h fun q h_q h=>Rq Y (ZgL (ov Y) (ov Y) h_q)<|R2 ZgG Y<|Ra Y<|Za<|Zj<|K4 0 1 2 6 Y<|Tr<|Rm Y<|bE h fun q2 h_q2 h=>Rq Y (Za4 (ov Y) (ov Y) h_q2)<|R2 ZbU Y<|Za<|K4 0 2 6 12 Y<|If h Y (fun h=>?_) fun h=>?_
 ·
  refine Zj<|K3 0 2 6 Y<|QH (cw := ⟨false, false, [], [20, 24], []⟩) (by kernel_rfl)<|D1 0 Zc Y<|D1 1 Zc Y<|D1 5 Zc Y<|bE h fun q3 h_q3 h=>Dq 6 Y (Za5 (ov Y) (ov Y) h_q3)<|Dq 7 Y (QA (ov Y) Zd7 tI5 Y)<|D1 12 Zc Y<|D1 13 Zc Y<|D2 14 ZX Y<|Dq 15 Y (ZB (ov Y) Y Y)<|bE h fun x h_x h=>Dq 16 Y (Zas (ov Y) (ov Y) Zeb Y Y h_x)<|Dq 17 Y (Zu (ov Y) Y Y Y tS5<|Q0<|Ji (o := 0) (o' := ((i64 ((i64 (q * 3)) + 1)).toNat * 1)) (Zz arL)<|Jb h_x)<|Dq 20 Y (ZB (ov Y) Y Y)<|bE h fun x2 h_x2 h=>Dq 21 Y (Zas (ov Y) (ov Y) Zeb Y Y h_x2)<|Z9 2 _ Y (by kernel_rfl) Y Y (fun hp'=>Zc<|ov Y)<|Z9 3 _ Y (by kernel_rfl) Y Y (fun hp'=>Zc<|ov Y)<|Z9 4 _ Y (by kernel_rfl) Y Y (fun hp'=>ZjW (ov Y) (ov Y) Y)<|Z9 8 _ Y (by kernel_rfl) Y Y (fun hp'=>Zc<|ov Y)<|Z9 9 _ Y (by kernel_rfl) Y Y (fun hp'=>Zby (ov Y)<|ov Y)<|bE h fun q4 h_q4 h=>Z9 10 _ Y (by kernel_rfl) Y Y (fun hp'=>Ze0 (ov Y) (ov Y) h_q4)<|Z9 11 _ Y (by kernel_rfl) Y Y (fun hp'=>QA (ov Y) Zd7 tI5 Y)<|Z9 18 _ Y (by kernel_rfl) Y Y (fun hp'=>Zby (ov Y)<|ov Y)<|Z9 19 _ Y (by kernel_rfl) Y Y (fun hp'=>Zgu (ov Y)<|ov Y)<|Dw 23 22 Y (ZB (ov Y) Y Y) (Zh (ov Y) (ov Y) (Zd tS5) Y Y Y (arB h_x2) (Zb Y)<|arS h_x2) ?_ ?_
  ·
   refine Do 22 Y (Zh (ov Y) (ov Y) (Zd tS5) Y Y Y (arB h_x2) (Zb Y)<|arS h_x2)<|bE h fun x3 h_x3 h=>Dq 24 Y (Zas (ov Y) (ov Y) Zeb Y Y h_x3)<|Do 25 Y (Zh (ov Y) (ov Y) (Zd tS5) Y Y Y (arB h_x3) (Zb Y)<|arS h_x3)<|Dd<|?_
   obtain rfl := rt h
   exact Zp<|Za2 [some 0] Y .nil (.cons Y (ro1 (by exact Eq.trans (b := 96) arL tZ_157.symm)<|rld<|arD fun _ => Y) .nil) Y Y<|Xw rln
  ·
   refine Dq 23 Y (ZB (ov Y) Y Y)<|bE h fun x3 h_x3 h=>Dq 24 Y (Zas (ov Y) (ov Y) Zeb Y Y h_x3)<|Do 25 Y (Zh (ov Y) (ov Y) (Zd tS5) Y Y Y (arB h_x3) (Zb Y)<|arS h_x3)<|Dd<|?_
   obtain rfl := rt h
   exact Zp<|Za2 [some 0] Y .nil (.cons Y (ro1 (by exact Eq.trans (b := 96) arL tZ_157.symm)<|rld<|arD fun _ => Y) .nil) Y Y<|Xw rln
 ·
  refine Zi<|K3 0 2 6 Y<|QH (cw := ⟨false, false, [], [52, 55], []⟩) (by kernel_rfl)<|D1 0 Zc Y<|D1 1 Zc Y<|D2 2 ZX Y<|D1 6 Zc Y<|D1 7 Zc Y<|D2 8 ZX Y<|Dq 9 Y (ZB (ov Y) Y Y)<|bE h fun x4 h_x4 h=>Dq 10 Y (Zas (ov Y) (ov Y) Zeb Y Y h_x4)<|Dq 11 Y (Zu (ov Y) Y Y Y tS5<|Q0<|Ji (o := 0) (o' := ((i64 ((i64 (q * 3)) + 1)).toNat * 1)) (Zz arL)<|Jb h_x4)<|D2 12 Zby Y<|D1 13 Zc Y<|bE h fun q5 h_q5 h=>Dq 14 Y (Za5 (ov Y) (ov Y) h_q5)<|Dq 15 Y (QA (ov Y) Zd7 tI5 Y)<|D2 16 Zgu Y<|Dq 19 Y (ZB (ov Y) Y Y)<|bE h fun x5 h_x5 h=>Dq 20 Y (Zas (ov Y) (ov Y) Zeb Y Y h_x5)<|Z9 3 _ Y (by kernel_rfl) Y Y (fun hp'=>Zc<|ov Y)<|Z9 4 _ Y (by kernel_rfl) Y Y (fun hp'=>Zc<|ov Y)<|Z9 5 _ Y (by kernel_rfl) Y Y (fun hp'=>ZjW (ov Y) (ov Y) Y)<|Z9 17 _ Y (by kernel_rfl) Y Y (fun hp'=>Zc<|ov Y)<|Z9 18 _ Y (by kernel_rfl) Y Y (fun hp'=>QA (ov Y) Zd7 tI5 Y)<|Dw 22 21 Y (ZB (ov Y) Y Y) (Zh (ov Y) (ov Y) (Zd tS5) Y Y Y (arB h_x5) (Zb Y)<|arS h_x5) ?_ ?_
  ·
   refine Do 21 Y (Zh (ov Y) (ov Y) (Zd tS5) Y Y Y (arB h_x5) (Zb Y)<|arS h_x5)<|bE h fun x6 h_x6 h=>Dq 23 Y (Zas (ov Y) (ov Y) Zeb Y Y h_x6)<|Do 24 Y (Zh (ov Y) (ov Y) (Zd tS5) Y Y Y (arB h_x6) (Zb Y)<|arS h_x6)<|Dd<|?_
   obtain rfl := rt h
   exact Zgt [some 0] Y .nil (.cons Y (ro1 (by exact Eq.trans (b := 96) arL tZ_157.symm)<|rld<|arD fun _ => Y) .nil) Y Y<|Xw rln
  ·
   refine Dq 22 Y (ZB (ov Y) Y Y)<|bE h fun x6 h_x6 h=>Dq 23 Y (Zas (ov Y) (ov Y) Zeb Y Y h_x6)<|Do 24 Y (Zh (ov Y) (ov Y) (Zd tS5) Y Y Y (arB h_x6) (Zb Y)<|arS h_x6)<|Dd<|?_
   obtain rfl := rt h
   exact Zgt [some 0] Y .nil (.cons Y (ro1 (by exact Eq.trans (b := 96) arL tZ_157.symm)<|rld<|arD fun _ => Y) .nil) Y Y<|Xw rln
theorem ZiC {p : Vector Int 96} {f : Vector Int 64} {r : (Vector Int 96)} (h : Zcw p f = some r) :
 GSpec Tryz.prog gl0 111 [.ptr 0 1 0 0, .rp (List.map C40 f.toList) 0] [some ⟨157, [(List.map C5 p.toList)]⟩] (.tuple []) [some ⟨157, [(List.map C5 r.toList)]⟩] := by
 unfold Zcw at h
 replace h := QF h
 refine QO (by kernel_rfl) Tryz.func111 Y Y<|?_
 intro w0 A W φ0
 refine Tr<|Rm Y<|Za<|Zg<|?_
 obtain ⟨r1, hl1, ho1⟩ := Xj h
 refine L2 (fun o i=>⟨[(0, .ptr 0 1 0 0), (1, .rp (List.map C40 f.toList) 0), (5, .int .i64 i)], [some ⟨157, [(List.map C5 o.toList)]⟩]⟩) hl1 (ES [some 0]) fun n1 o i h=>?_
 unfold JI at h
 refine Tr<|R2 ZY Y<|Za<|Zj<|If h Y (fun h=>?_) fun h=>?_
 ·
  exact Zi<|Zj<|Zg<|K3 0 1 5 Y<|Tr<|Rm Y<|Ra Y<|Za<|K4 0 1 4 5 Y<|Zt<|Rm Y<|Rm Y<|Rm Y<|Rm Y<|R1 ZQ Y<|bE h fun x h_x h=>Rq Y (Xx (ov Y) (ov Y) Za1 h_x)<|Rq Y (Ze (ov Y) ZbX<|Q0<|Ji (o := 0) (o' := (i.toNat * 1)) (Zz arL)<|Jb h_x)<|bE h fun y h_y h=>Rx Y (ZH [0] (Zf1 h_y) (.cons (ov Y) (.ptr _ _ _ Y)<|.cons (ov Y) (.dat Y)<|.cons (ov Y) (.dat Y) .nil) (.cons Y (ro1 (by exact Eq.trans (b := 96) arL tZ_157.symm)<|rld<|arD fun _ => Y) .nil) Y (.lent 0 (.inl Y) Y (ro1 (by exact Eq.trans (b := 96) arL tZ_157.symm)<|rld<|arD fun _ => Y) .nil) Y Y<|Xw<|rld Y)<|Za<|K3 0 1 5 Y<|Zt<|R2 ZX Y<|Rm Y<|Za<|⟨_, h, ES [some 0]⟩
 ·
  refine ZS<|?_
  replace h := lx h ▸ ho1
  obtain rfl := rt h
  exact Zgt [some 0] Y .nil (.cons Y (ro1 (by exact Eq.trans (b := 96) arL tZ_157.symm)<|rld<|arD fun _ => Y) .nil) Y Y<|Xw rln
theorem ZhU {f : Vector Int 64} {r : (List Int) × Int} (h : JK f = some r) :
 CSpec Tryz.prog gl0 70 [.agg (List.map C40 f.toList)] (.tuple [.sl 5 (List.map R5 r.1), .int .i64 r.2]) := by
 unfold JK at h
 replace h := QF h
 refine So Tryz.func70 Y fun w0 A=>Tr<|Rq Y (ZcB (cva<|ov Y) arL tZ_42<|arD fun _ => Y)<|Ra Y<|Ra Y<|Za<|Zj<|K1 1 Y<|Tr<|bE h fun y h_y h=>Rq Y (Zw (ZjH h_y)<|.cons (ov Y) (.b Y) .nil)<|Za<|If h Y (fun h=>?_) fun h=>?_
 ·
  refine K0<|Tr<|Ra Y<|Ra Y<|Za<|?_
  obtain rfl := rt h
  exact Zp (Z5 Y (.two (.tmp Y<|View.nils 5)<|rb Y))
 ·
  refine Zi<|K1 1 Y<|Tr<|Rx Y (Qf (row := (List.map C5 (Vector.replicate 96 0).toList)) 0 Y Zo3 Y tZ_157)<|Za<|Tr<|bE h fun y2 h_y2 h=>Rx Y (ZH [0] (ZiC h_y2) (.cons (ov Y) (.ptr _ _ _ Y)<|.cons (ov Y) (.dat Y) .nil) (.cons Y (ro1 (by exact Eq.trans (b := 96) arL tZ_157.symm)<|rld<|arD fun _ => Y) .nil) Y (.lent 0 (.inl Y) Y (ro1 (by exact Eq.trans (b := 96) arL tZ_157.symm)<|rld<|arD fun _ => Y) .nil) Y Y<|Xw<|rld Y)<|Za<|K1 4 Y<|Tr<|bE h fun l h_l h=>Xf (Ent.sel [none] (sr 4 Y (.frp ⟨Y, ⟨_, Y⟩, Y, (arD fun _ => Y)⟩) sn) (.row 157 .nil) Y Y)<|Rq Y (ZlU (f := C5) (ov Y) Zeb tZ_5 (Zz arL) Y on on h_l)<|Ra Y<|Ra Y<|Za<|?_
  obtain rfl := rt h
  exact Zp (Z5 Y (.two (rb Y)<|rb Y))
theorem Zgf {s : List Int} {power : Int} {r : Int × Bool × (List Int)} (h : QW s power = some r) :
 GSpec Tryz.prog gl0 74 [.own 0 s.length, .int .i64 power] [some ⟨5, List.map R5 s⟩] (.tuple [.int .i64 r.1, .bool r.2.1]) [some ⟨5, List.map R5 r.2.2⟩] := by
 unfold QW at h
 replace h := QF h
 refine QO (by kernel_rfl) Tryz.func74 Y Y<|?_
 intro w0 A W φ0
 refine Tr<|Ra Y<|Ra Y<|Za<|K2 0 1 Y<|Tr<|Rm Y<|Ra Y<|Za<|Zj<|K3 0 1 6 Y<|Tr<|Rm Y<|R2 ZbU Y<|Za<|K4 0 1 6 10 Y<|If h Y (fun h=>?_) fun h=>?_
 ·
  refine K3 0 1 6 Y<|Zt<|Rm Y<|Rm Y<|Rq Y (ZfR (ov Y) Y Y QU)<|bE h fun q h_q h=>Rq Y (ZgL (ov Y) (ov Y) h_q)<|bE h fun u h_u h=>Rq Y (Zpc (ov Y) Y Y QU on (oi<|ov Y) h_u)<|Ra Y<|Za<|I1 (fun o=>⟨[(1, .int .i64 power)], [some ⟨5, List.map R5 o⟩]⟩) h (fun h=>?_) fun o h=>?_
  ·
   refine K2 1 6 Y<|Tr<|Rm Y<|Rq Y (Zn9 (ov Y) Y (List.length_map ..) QU)<|Rm Y<|Za<|Zg<|?_
   obtain ⟨r1, hl1, ho1⟩ := Xj h
   refine L2 (fun o2 i=>⟨[(1, .int .i64 power), (6, .osl 0 o2.length (Int.toNat 0) (Int.toNat (q - 0))), (17, .int .i64 ((Int.toNat (q - 0) : Nat) : Int)), (18, .int .i64 i)], [some ⟨5, List.map R5 o2⟩]⟩) hl1 (ES [some 0]<|sd 1 Y Y<|sr 6 Y (.osl _ _ _ Y)<|sd 17 Y Y<|sd 18 Y Y sn) fun n1 o2 i h=>?_
   unfold Qq at h
   refine Tr<|R2 ZY Y<|Za<|Zj<|If h Y (fun h=>?_) fun h=>?_
   ·
    exact Zi<|Zj<|Zg<|K4 1 6 17 18 Y<|Tr<|Rm Y<|Ra Y<|Za<|K5 1 6 7 17 18 Y<|Zt<|Rm Y<|Rm Y<|bE h fun u2 h_u2 h=>bE h fun x2 h_x2 h=>Rq Y (ZnB (ov Y) (ov Y) QU Y Y (Zg7 h_u).1 h_u2 h_x2)<|Rx Y (Jh (u' := 255) (ov Y) (ov Y) (Zd tS5) Y Y h_x2 Y (Zb Y) Y)<|Za<|K4 1 6 17 18 Y<|Zt<|R2 ZX Y<|Rm Y<|Za<|⟨_, h, ES [some 0]<|sd 1 Y Y<|sr 6 Y (Zq3 (Eq.symm<|(List.length_set ..).trans Y) Y)<|sd 17 Y Y<|sd 18 Y Y sn⟩
   ·
    refine ZS<|?_
    replace h := lx h ▸ ho1
    exact ⟨_, h, ES [some 0]⟩
  ·
   refine Tr<|Rm Y<|R2 Zcr Y<|Rq Y (ZnU (ov Y) (ov Y) Y)<|Rm Y<|R2 Zde Y<|Ra Y<|Ra Y<|Za<|?_
   obtain rfl := rt h
   exact Zp<|Za2 [some 0] Y (.cons (.tmp Y)<|.cons (.tmp Y) .nil) (.cons Y (roM D5) .nil) Y Y<|Xw<|rlc (.dat Y)<|rlc (.dat Y) rln
 ·
  refine Zi<|I1 (fun o3=>⟨[(1, .int .i64 power)], [some ⟨5, List.map R5 o3⟩]⟩) h (fun h=>?_) fun o3 h=>?_
  ·
   refine K2 1 6 Y<|Tr<|Rm Y<|Rq Y (ZfR (ov Y) Y Y QU)<|Rm Y<|Za<|Zg<|?_
   obtain ⟨r2, hl2, ho2⟩ := Xj h
   refine L2 (fun o4 i2=>⟨[(1, .int .i64 power), (6, .own 0 o4.length), (17, .int .i64 (s.length : Int)), (18, .int .i64 i2)], [some ⟨5, List.map R5 o4⟩]⟩) hl2 (ES [some 0]) fun n2 o4 i2 h=>?_
   unfold Qr at h
   refine Tr<|R2 ZY Y<|Za<|Zj<|If h Y (fun h=>?_) fun h=>?_
   ·
    exact Zi<|Zj<|Zg<|K4 1 6 17 18 Y<|Tr<|Rm Y<|Ra Y<|Za<|K5 1 6 7 17 18 Y<|Zt<|Rm Y<|Rm Y<|bE h fun x3 h_x3 h=>Rq Y (QI (ov Y) (ov Y) QU Y Y h_x3)<|Rx Y (Jh (u' := 255) (ov Y) (ov Y) (Zd tS5) Y Y h_x3 Y (Zb Y) Y)<|Za<|K4 1 6 17 18 Y<|Zt<|R2 ZX Y<|Rm Y<|Za<|⟨_, h, ES [some 0]<|sd 1 Y Y<|sr 6 Y (ZdX (Eq.symm<|(List.length_set ..).trans Y) Y)<|sd 17 Y Y<|sd 18 Y Y sn⟩
   ·
    refine ZS<|?_
    replace h := lx h ▸ ho2
    exact ⟨_, h, ES [some 0]⟩
  ·
   refine Tr<|Rm Y<|R2 Zcr Y<|Rq Y (ZnU (ov Y) (ov Y) Y)<|Rm Y<|R2 Zde Y<|Ra Y<|Ra Y<|Za<|?_
   obtain rfl := rt h
   exact Zp<|Za2 [some 0] Y (.cons (.tmp Y)<|.cons (.tmp Y) .nil) (.cons Y (roM D5) .nil) Y Y<|Xw<|rlc (.dat Y)<|rlc (.dat Y) rln
theorem ZeL {s : List Int} {at_ : Int} {data : List Int} {power : Int} {r : Int × Bool × (List Int)} (h : QT s at_ data power = some r) :
 GSpec Tryz.prog gl0 72 [.own 0 s.length, .int .i64 at_, .sl 5 (List.map R5 data), .int .i64 power] [some ⟨5, List.map R5 s⟩] (.tuple [.int .i64 r.1, .bool r.2.1]) [some ⟨5, List.map R5 r.2.2⟩] := by
 unfold QT at h
 replace h := QF h
 refine QO (by kernel_rfl) Tryz.func72 Y Y<|?_
 intro w0 A W φ0
 refine Tr<|Ra Y<|Ra Y<|Za<|J2 (fun j => (.inr j)) (fun o power2=>⟨[(3, .int .i64 power2)], [some ⟨5, List.map R5 o⟩]⟩) h (fun h=>?_) fun o power2 h=>?_
 ·
  refine K4 0 1 2 3 Y<|Tr<|Rm Y<|Rl tZ_5 QU Y<|Rm Y<|Za<|Zg<|?_
  obtain ⟨r1, hl1, ho1⟩ := Xj h
  refine L3 (fun o2 power3 i=>⟨[(0, .own 0 o2.length), (1, .int .i64 at_), (3, .int .i64 power3), (12, .sl 5 (List.map R5 data)), (13, .int .i64 (data.length : Int)), (14, .int .i64 i)], [some ⟨5, List.map R5 o2⟩]⟩) hl1 (ES [some 0]) fun n1 o2 power3 i h=>?_
  unfold QL at h
  refine Tr<|R2 ZY Y<|Za<|Zj<|If h Y (fun h=>?_) fun h=>?_
  ·
   refine Zi<|Zj<|Zg<|K6 0 1 3 12 13 14 Y<|Tr<|Rm Y<|bE h fun x h_x h=>Rq Y (Ql (ov Y) (ov Y) QU h_x)<|Rq Y (Ze (ov Y) tS5 Y)<|Ra Y<|Ra Y<|Za<|Zj<|K8 0 1 3 10 11 12 13 14 Y<|Tr<|Rm Y<|R2 ZbU Y<|Za<|K9 0 1 3 10 11 12 13 14 20 Y<|If h Y (fun h=>?_) fun h=>?_
   ·
    refine K4 0 1 10 11 Y<|Tr<|Rm Y<|Rm Y<|Rm Y<|R2 ZX Y<|bE h fun x2 h_x2 h=>Rq Y (QI (ov Y) (ov Y) QU Y Y h_x2)<|Rq Y (QG (ov Y) Y Y h_x2 tS5 Y)<|Rm Y<|R2 Zgu Y<|R2 Zby Y<|bE h fun x3 h_x3 h=>Rq Y (QI (ov Y) (ov Y) QU Y Y h_x3)<|Rx Y (Jh (u' := (QD .u8 x2 (bor .u8 x 15))) (ov Y) (ov Y) (Zd tS5) Y Y h_x3 Y (Zb Y) Y)<|Za<|K0<|Tr<|Ra Y<|Ra Y<|Za<|?_
    replace h := lx h ▸ ho1
    obtain rfl := rt h
    exact Zp<|Za2 [some 0] Y (.cons (.tmp Y)<|.cons (.tmp Y) .nil) (.cons Y (roM D5) .nil) Y Y<|Xw<|rlc (.dat Y)<|rlc (.dat Y) rln
   ·
    exact Zi<|K8 0 1 3 10 11 12 13 14 Y<|Tr<|Rm Y<|Rm Y<|Rm Y<|R2 ZX Y<|bE h fun x4 h_x4 h=>Rq Y (QI (ov Y) (ov Y) QU Y Y h_x4)<|Rq Y (QG (ov Y) Y Y h_x4 tS5 Y)<|Rm Y<|R2 Zby Y<|bE h fun x5 h_x5 h=>Rq Y (QI (ov Y) (ov Y) QU Y Y h_x5)<|Rx Y (Jh (u' := (QD .u8 x4 x)) (ov Y) (ov Y) (Zd tS5) Y Y h_x5 Y (Zb Y) Y)<|Za<|K6 0 1 3 12 13 14 Y<|Zt<|Rm Y<|R2 Zcr Y<|Ra Y<|Za<|K6 0 1 3 12 13 14 Y<|Zt<|R2 ZX Y<|Rm Y<|Za<|⟨_, h, ES [some 0]<|sr 0 Y (ZdX (Eq.symm<|(List.length_set ..).trans Y) Y)<|sd 1 Y Y<|sd 3 Y Y<|sd 12 Y Y<|sd 13 Y Y<|sd 14 Y Y sn⟩
  ·
   refine ZS<|?_
   replace h := lx h ▸ ho1
   exact ⟨_, h, ES [some 0]⟩
 ·
  replace h := elr h
  replace h := t2i h
  refine Tr<|Rm Y<|Ra Y<|Ra Y<|Za<|?_
  obtain rfl := rt h
  exact Zp<|Za2 [some 0] Y (.cons (.tmp Y)<|.cons (.tmp Y) .nil) (.cons Y (roM D5) .nil) Y Y<|Xw<|rlc (.dat Y)<|rlc (.dat Y) rln
theorem Zdy {b : ring_Recorder} {k : Int} {power : Int} {r : Int × Bool × ring_Recorder} (h : Xl b k power = some r) :
 GSpec Tryz.prog gl0 112 [.ptr 0 1 0 0, .int .i64 k, .int .i64 power] [some ⟨102, [[.own 1 b.bank.memories.length, .own 2 b.bank.spots.length, .int .i64 b.copies, .bool b.frozen, .bool b.stopped, .int .i64 b.last, .bool b.some_]]⟩, some ⟨26, List.map O26 b.bank.memories⟩, some ⟨105, List.map R105 b.bank.spots⟩] (.tuple [.int .i64 r.1, .bool r.2.1]) [some ⟨102, [[.own 3 r.2.2.bank.memories.length, .own 4 r.2.2.bank.spots.length, .int .i64 r.2.2.copies, .bool r.2.2.frozen, .bool r.2.2.stopped, .int .i64 r.2.2.last, .bool r.2.2.some_]]⟩, none, none, some ⟨26, List.map O26 r.2.2.bank.memories⟩, some ⟨105, List.map R105 r.2.2.bank.spots⟩] := by
 unfold Xl at h
 replace h := QF h
 refine QO (by kernel_rfl) Tryz.func112 Y Y<|?_
 intro w0 A W φ0
 refine ZfV (Ent.sel [some 0, some 1, some 2, some 1, some 2] (sr 0 Y (.ptr (r' := 0) _ _ _ Y)<|sd 1 Y Y<|sd 2 Y Y sn) (.cons Y (ro1 (by exact tZ_102.symm)<|rlc (.own (r' := 3) _ Y)<|rlc (.own (r' := 4) _ Y)<|rlc (.dat Y)<|rlc (.dat Y)<|rlc (.dat Y)<|rlc (.dat Y)<|rlc (.dat Y) rln)<|.dead<|.dead<|.cons Y (roO QR)<|.cons Y (roM D105) .nil) Y Y)<|QP [some ⟨102, [[.own 3 b.bank.memories.length, .own 4 b.bank.spots.length, .int .i64 b.copies, .bool b.frozen, .bool b.stopped, .int .i64 b.last, .bool b.some_]]⟩, none, none, some ⟨26, List.map O26 b.bank.memories⟩, some ⟨105, List.map R105 b.bank.spots⟩] Y<|Tr<|Ra Y<|Ra Y<|Za<|Zj<|K3 0 1 2 Y<|QH (cw := md0) (by kernel_rfl)<|D1 0 Zc Y<|Dq 1 Y (ZB (ov Y) Y Y)<|Dq 2 Y (Zf (ov Y) Y Y ZcN)<|Dq 3 Y (Zu (ov Y) Y Y Y ZjN Y)<|D1 4 Zc Y<|bE h fun x h_x h=>Dq 5 Y (QI (ov Y) (ov Y) Zbh Y Y h_x)<|D1 6 Zc Y<|D1 7 Zc Y<|bE h fun y h_y h=>Dq 8 Y (Zch (ZbT h_y) .int<|.cons (ov Y) (View.ptrS (j := 0) (k := 2) Y Y Y (Nat.le_of_ble_eq_true Y)<|.cons (View.ownO Y Y QR (fun x=>(D26 x).1) Zju)<|.cons (View.ownM Y Y D105) .nil)<|.cons (ov Y) (Dat.view<|.b Y) .nil)<|D1 9 Q1 Y<|D1 10 Q1 Y<|Dd<|K5 0 1 2 8 9 Y<|Tr<|Rm Y<|Rm Y<|Rm Y<|bE h fun y2 h_y2 h=>Rq Y (Zch (Zct h_y2) .int<|.cons (ov Y) (View.ptrS (j := 0) (k := 2) Y Y Y (Nat.le_of_ble_eq_true Y)<|.cons (View.ownO Y Y QR (fun x=>(D26 x).1) Zju)<|.cons (View.ownM Y Y D105) .nil)<|.cons (ov Y) (Dat.view<|.b Y)<|.cons (ov Y) (Dat.view<|.b Y) .nil)<|Ra Y<|Za<|K6 0 1 2 8 9 10 Y<|Tr<|Rm Y<|Rq Y (ZB (ov Y) Y<|List.length_map ..)<|Rq Y (ZdH (ov Y) Y Y ZdZ)<|Xf (Ent.focusH (r := 3) (j := 3) (e' := 3) (g := R3) (ys := x.Wear) Y (ZN h_x).2 Y DR3)<|Rq Y (ZcZ (ov Y) Y Y (ZN h_x).2 Zje Y)<|Rm Y<|bE h fun x2 h_x2 h=>Rq Y (QI (ov Y) (ov Y) Q3 Y Y h_x2)<|Rq Y (QG (ov Y) Y Y h_x2 tS3 Y)<|R2 ZX Y<|bE h fun x3 h_x3 h=>Rq Y (QI (ov Y) (ov Y) Q3 Y Y h_x3)<|Rx Y (Jh (u' := (i64 (x2 + 1))) (ov Y) (ov Y) (Zd tS3) Y Y h_x3 Y (Zb Y) Y)<|ZeS [some ⟨102, [[.own 3 b.bank.memories.length, .own 4 b.bank.spots.length, .int .i64 b.copies, .bool b.frozen, .bool b.stopped, .int .i64 b.last, .bool b.some_]]⟩, none, none, some ⟨26, List.set (List.map O26 b.bank.memories) k.toNat [.int .i64 x.Slots, .int .i64 x.Limit, .osub 49 (List.map O49 x.Sectors), .own 5 x.Wear.length, .osub 4 (List.map R4 x.Bad)]⟩, some ⟨105, List.map R105 b.bank.spots⟩, some ⟨3, List.map R3 (x.Wear.set y.toNat (i64 (x2 + 1)))⟩] Y<|?_
 have h_x4 := JA (y := (api_Memory.mk x.Slots x.Limit x.Sectors (x.Wear.set y.toNat (i64 (x2 + 1))) x.Bad)) h_x
 have h_x5 := JA (y := (api_Memory.mk x.Slots x.Limit x.Sectors (x.Wear.set y.toNat (i64 (x2 + 1))) x.Bad)) h_x
 have h_x6 := JA (y := (api_Memory.mk x.Slots x.Limit x.Sectors (x.Wear.set y.toNat (i64 (x2 + 1))) x.Bad)) h_x
 have h_x7 := JA (y := (api_Memory.mk x.Slots x.Limit x.Sectors (x.Wear.set y.toNat (i64 (x2 + 1))) x.Bad)) h_x
 refine Xf (Ent.absorbH (r := 3) (j := 3) (q := 5) Y (ZN h_x).2 Y Y ((List.length_map ..).trans<|(List.length_set ..).trans Y) Y)<|Xf (Ent.closeH (r := 3) (y := (api_Memory.mk x.Slots x.Limit x.Sectors (x.Wear.set y.toNat (i64 (x2 + 1))) x.Bad)) Y Y)<|Za<|K6 0 1 2 8 9 10 Y<|QP [some ⟨102, [[.own 3 b.bank.memories.length, .own 4 b.bank.spots.length, .int .i64 b.copies, .bool b.frozen, .bool b.stopped, .int .i64 b.last, .bool b.some_]]⟩, none, none, some ⟨26, List.map O26 (b.bank.memories.set k.toNat (api_Memory.mk x.Slots x.Limit x.Sectors (x.Wear.set y.toNat (i64 (x2 + 1))) x.Bad))⟩, some ⟨105, List.map R105 b.bank.spots⟩, none] Y<|Tr<|Rm Y<|Rq Y (ZB (ov Y) Y<|(List.length_map ..).trans<|(List.length_set ..).trans Y)<|Rq Y (ZdH (ov Y) Y ((List.length_set ..).trans Y) ZF)<|Xf (Ent.focusH (r := 3) (j := 2) (e' := 49) (g := O49) (ys := x.Sectors) Y (ZN h_x4).2 Y Xi)<|Rq Y (ZcZ (ov Y) Y ((List.length_set ..).trans Y) (ZN h_x4).2 Qc Y)<|Rm Y<|bE h fun x8 h_x8 h=>Rq Y (QI (ov Y) (ov Y) ZZ Y Y h_x8)<|Xf (Ent.focusH (r := 6) (j := 0) (e' := 5) (g := R5) (ys := x8) Y (ZN h_x8).2 Y DR5)<|Rq Y (ZcZ (ov Y) Y Y (ZN h_x8).2 ZgI Y)<|Rm Y<|bE h fun y3 h_y3 h=>Rx Y (ZH [7] (Zgf h_y3) (.cons (ov Y) (.own _ Y)<|.cons (ov Y) (.dat Y) .nil) (.cons Y (roM D5) .nil) Y (.keep Y Y<|.none<|.none<|.keep Y Y<|.keep Y Y<|.none<|.keep Y Y<|.lent 0 (.inl Y) Y (roM D5) .nil) Y Y<|Xw<|rld Y)<|Rm Y<|Rq Y (Zn (ov Y) Y)<|Rq Y (Zn (ov Y) Y)<|Ra Y<|Ra Y<|ZeS [some ⟨102, [[.own 3 b.bank.memories.length, .own 4 b.bank.spots.length, .int .i64 b.copies, .bool b.frozen, .bool b.stopped, .int .i64 b.last, .bool b.some_]]⟩, none, none, some ⟨26, List.set (List.map O26 (b.bank.memories.set k.toNat (api_Memory.mk x.Slots x.Limit x.Sectors (x.Wear.set y.toNat (i64 (x2 + 1))) x.Bad))) k.toNat [.int .i64 x.Slots, .int .i64 x.Limit, .own 6 x.Sectors.length, .osub 3 (List.map R3 (x.Wear.set y.toNat (i64 (x2 + 1)))), .osub 4 (List.map R4 x.Bad)]⟩, some ⟨105, List.map R105 b.bank.spots⟩, none, some ⟨49, List.set (List.map O49 x.Sectors) y.toNat [.own 7 x8.length]⟩, some ⟨5, List.map R5 y3.2.2⟩] Y<|?_
 have h_x9 := JA (y := y3.2.2) h_x8
 have h_x10 := JA (y := (api_Memory.mk x.Slots x.Limit (x.Sectors.set y.toNat y3.2.2) (x.Wear.set y.toNat (i64 (x2 + 1))) x.Bad)) h_x4
 have h_x11 := JA (y := (api_Memory.mk x.Slots x.Limit (x.Sectors.set y.toNat y3.2.2) (x.Wear.set y.toNat (i64 (x2 + 1))) x.Bad)) h_x4
 have h_x12 := JA (y := (api_Memory.mk x.Slots x.Limit (x.Sectors.set y.toNat y3.2.2) (x.Wear.set y.toNat (i64 (x2 + 1))) x.Bad)) h_x4
 have h_x13 := JA (y := (api_Memory.mk x.Slots x.Limit (x.Sectors.set y.toNat y3.2.2) (x.Wear.set y.toNat (i64 (x2 + 1))) x.Bad)) h_x4
 refine Xf (Ent.absorbH (r := 6) (j := 0) (q := 7) Y (ZN h_x8).2 Y Y ((List.length_map ..).trans<|Zge h_y3) Y)<|Xf (Ent.closeH (r := 6) (y := y3.2.2) Y Y)<|Xf (Ent.absorbH (r := 3) (j := 2) (q := 6) Y (ZN h_x4).2 Y Y ((List.length_map ..).trans<|(List.length_set ..).trans Y) Y)<|Xf (Ent.closeH (r := 3) (y := (api_Memory.mk x.Slots x.Limit (x.Sectors.set y.toNat y3.2.2) (x.Wear.set y.toNat (i64 (x2 + 1))) x.Bad)) Y Y)<|Za<|Zj<|K7 0 1 2 8 9 10 11 Y<|QP [some ⟨102, [[.own 3 b.bank.memories.length, .own 4 b.bank.spots.length, .int .i64 b.copies, .bool b.frozen, .bool b.stopped, .int .i64 b.last, .bool b.some_]]⟩, none, none, some ⟨26, List.map O26 ((b.bank.memories.set k.toNat (api_Memory.mk x.Slots x.Limit x.Sectors (x.Wear.set y.toNat (i64 (x2 + 1))) x.Bad)).set k.toNat (api_Memory.mk x.Slots x.Limit (x.Sectors.set y.toNat y3.2.2) (x.Wear.set y.toNat (i64 (x2 + 1))) x.Bad))⟩, some ⟨105, List.map R105 b.bank.spots⟩, none, none, none] Y<|Tr<|Rm Y<|R1 J7 Y<|Za<|K7 0 1 2 8 9 10 47 Y<|If h Y (fun h=>?_) fun h=>?_
 ·
  refine K1 2 Y<|Tr<|Rm Y<|Ra Y<|Ra Y<|Za<|?_
  obtain rfl := rt h
  exact Zp<|Za2 [some 0, some 1, some 2, some 3, some 4] Y (.cons (.tmp Y)<|.cons (.tmp Y) .nil) (.cons Y (ro1 (by exact tZ_102.symm)<|rlc (ZdX (Eq.symm<|(List.length_set ..).trans<|(List.length_set ..).trans Y) Y)<|rlc (.own _ Y)<|rlc (.dat Y)<|rlc (.dat Y)<|rlc (.dat Y)<|rlc (.dat Y)<|rlc (.dat Y) rln)<|.dead<|.dead<|.cons Y (roO QR)<|.cons Y (roM D105) .nil) Y Y<|Xw<|rlc (.dat Y)<|rlc (.dat Y) rln
 ·
  refine Zi<|I4 (fun memories spots power2 all=>⟨[(2, .int .i64 power2), (11, .bool all)], [some ⟨102, [[.own 3 memories.length, .own 4 spots.length, .int .i64 b.copies, .bool b.frozen, .bool b.stopped, .int .i64 b.last, .bool b.some_]]⟩, none, none, some ⟨26, List.map O26 memories⟩, some ⟨105, List.map R105 spots⟩]⟩) h (fun h=>?_) fun memories spots power2 all h=>?_
  ·
   refine Zj<|K6 0 1 2 8 9 10 Y<|bE h fun x14 h_x14 h=>ZfV (Ent.focusH (r := 3) (j := 2) (e' := 49) (g := O49) (ys := x14.Sectors) Y (ZN h_x14).2 Y Xi)<|bE h fun x15 h_x15 h=>ZfV (Ent.focusH (r := 8) (j := 0) (e' := 5) (g := R5) (ys := x15) Y (ZN h_x15).2 Y DR5)<|QH (cw := ⟨true, true, [some ⟨102, [[.own 3 b.bank.memories.length, .own 4 b.bank.spots.length, .int .i64 b.copies, .bool b.frozen, .bool b.stopped, .int .i64 b.last, .bool b.some_]]⟩, none, none, some ⟨26, List.set (List.map O26 ((b.bank.memories.set k.toNat (api_Memory.mk x.Slots x.Limit x.Sectors (x.Wear.set y.toNat (i64 (x2 + 1))) x.Bad)).set k.toNat (api_Memory.mk x.Slots x.Limit (x.Sectors.set y.toNat y3.2.2) (x.Wear.set y.toNat (i64 (x2 + 1))) x.Bad))) k.toNat [.int .i64 x14.Slots, .int .i64 x14.Limit, .own 8 x14.Sectors.length, .osub 3 (List.map R3 x14.Wear), .osub 4 (List.map R4 x14.Bad)]⟩, some ⟨105, List.map R105 b.bank.spots⟩, none, none, none, some ⟨49, List.set (List.map O49 x14.Sectors) y.toNat [.own 9 x15.length]⟩, some ⟨5, List.map R5 x15⟩], [], [9]⟩) (by kernel_rfl)<|D1 7 Zc Y<|Z9 0 _ Y (by kernel_rfl) Y Y (fun hp'=>Zc<|ov Y)<|Jr 1 _ Y (by kernel_rfl) Y Y Y (EL.ext<|.keep<|.keep<|.keep<|.keep<|.keep<|.keep<|.keep<|.keep<|.keep<|.wr Y Y Y .nil) (fun hp' hx=>ZB (ov Y) (hx.get Y Y)<|((List.length_set ..).trans (List.length_map ..)).trans<|(List.length_set ..).trans<|(List.length_set ..).trans Y)<|Jr 2 _ Y (by kernel_rfl) Y Y Y (EL.ext<|.keep<|.keep<|.keep<|.keep<|.keep<|.keep<|.keep<|.keep<|.keep<|.wr Y Y Y .nil) (fun hp' hx=>Zj5 (ov Y) (hx.get Y Y) ((List.length_set ..).trans<|(List.length_set ..).trans Y) ZF)<|Jr 3 _ Y (by kernel_rfl) Y Y Y (EL.ext<|.keep<|.keep<|.keep<|.keep<|.keep<|.keep<|.keep<|.keep<|.keep<|.wr Y Y Y .nil) (fun hp' hx=>ZcZ (ov Y) (hx.get Y Y) ((List.length_set ..).trans<|(List.length_set ..).trans Y) (ZN h_x14).2 Qc Y)<|Z9 4 _ Y (by kernel_rfl) Y Y (fun hp'=>Zc<|ov Y)<|bE h fun x16 h_x16 h=>Jr 5 _ Y (by kernel_rfl) Y Y Y (EL.ext<|.keep<|.keep<|.keep<|.keep<|.keep<|.keep<|.keep<|.keep<|.keep<|.wr Y Y Y .nil) (fun hp' hx=>Zlv (ov Y) (ov Y) ZZ (hx.get Y Y) Y h_x16)<|Jr 6 _ Y (by kernel_rfl) Y Y Y (EL.ext<|.keep<|.keep<|.keep<|.keep<|.keep<|.keep<|.keep<|.keep<|.keep<|.wr Y Y Y .nil) (fun hp' hx=>ZcZ (ov Y) (hx.get Y Y) Y (ZN h_x15).2 ZgI Y)<|Z9 9 _ Y (by kernel_rfl) Y Y (fun hp'=>Zc<|ov Y)<|bE h fun y4 h_y4 h=>Zav 8 _ _ Y (by kernel_rfl) Y Y (fun h=>by cases h) (fun _=>by exact EL.ext (.keep <| .keep <| .keep <| .keep <| .keep <| .keep <| .keep <| .keep <| .keep <| .wr rfl rfl rfl <| .nil)) (JF<|Zw (ZfY h_y4)<|.cons (ov Y) (.b Y) .nil)<|bE h fun y5 h_y5 h=>Zav 10 _ _ Y (by kernel_rfl) Y Y (fun h=>by cases h) (fun _=>by exact EL.ext (.keep <| .keep <| .keep <| .keep <| .keep <| .keep <| .keep <| .keep <| .keep <| .wr rfl rfl ((List.length_map ..).trans (Eq.trans (ZaV h_y5) (Eq.symm ((List.length_map ..).trans rfl)))) <| .nil)) (ZH [9] (ZeL h_y5) (.cons (ov Y) (.own _ Y)<|.cons (ov Y) (.dat Y)<|.cons (ov Y) (.dat Y)<|.cons (ov Y) (.dat Y) .nil) (.cons Y (roM D5) .nil) Y (.keep Y Y<|.none<|.none<|.keep Y Y<|.keep Y Y<|.none<|.none<|.none<|.keep Y Y<|.lent 0 (.inl Y) Y (roM D5) .nil) Y Y<|Xw<|rld Y)<|D1 11 Zc Y<|Dq 12 Y (Zn (ov Y) Y)<|Dq 13 Y (Zn (ov Y) Y)<|D1 14 Q1 Y<|D1 15 Q1 Y<|?_
   have h_x17 := JA (y := y5.2.2) h_x16
   have h_x18 := JA (y := (api_Memory.mk x14.Slots x14.Limit (x14.Sectors.set y.toNat y5.2.2) x14.Wear x14.Bad)) h_x10
   have h_x19 := JA (y := (api_Memory.mk x14.Slots x14.Limit (x14.Sectors.set y.toNat y5.2.2) x14.Wear x14.Bad)) h_x10
   have h_x20 := JA (y := (api_Memory.mk x14.Slots x14.Limit (x14.Sectors.set y.toNat y5.2.2) x14.Wear x14.Bad)) h_x10
   have h_x21 := JA (y := (api_Memory.mk x14.Slots x14.Limit (x14.Sectors.set y.toNat y5.2.2) x14.Wear x14.Bad)) h_x10
   refine Z4 (by kernel_rfl) (Ent.trans (Ent.absorbH (r := 8) (j := 0) (q := 9) Y (ZN h_x15).2 Y Y ((List.length_map ..).trans<|ZaV h_y5) Y)<|Ent.trans (Ent.closeH (r := 8) (y := y5.2.2) Y Y)<|Ent.trans (Ent.absorbH (r := 3) (j := 2) (q := 8) Y (ZN h_x14).2 Y Y ((List.length_map ..).trans<|(List.length_set ..).trans Y) Y)<|Ent.closeH (r := 3) (y := (api_Memory.mk x14.Slots x14.Limit (x14.Sectors.set y.toNat y5.2.2) x14.Wear x14.Bad)) Y Y)<|K5 0 1 2 9 11 Y<|QP [some ⟨102, [[.own 3 b.bank.memories.length, .own 4 b.bank.spots.length, .int .i64 b.copies, .bool b.frozen, .bool b.stopped, .int .i64 b.last, .bool b.some_]]⟩, none, none, some ⟨26, List.map O26 (((b.bank.memories.set k.toNat (api_Memory.mk x.Slots x.Limit x.Sectors (x.Wear.set y.toNat (i64 (x2 + 1))) x.Bad)).set k.toNat (api_Memory.mk x.Slots x.Limit (x.Sectors.set y.toNat y3.2.2) (x.Wear.set y.toNat (i64 (x2 + 1))) x.Bad)).set k.toNat (api_Memory.mk x14.Slots x14.Limit (x14.Sectors.set y.toNat y5.2.2) x14.Wear x14.Bad))⟩, some ⟨105, List.map R105 b.bank.spots⟩, none, none, none, none, none] Y<|Tr<|Rm Y<|Za<|If h Y (fun h=>?_) fun h=>?_
   ·
    exact K5 0 1 2 9 11 Y<|Zt<|Rm Y<|Rq Y (ZB (ov Y) Y Y)<|Rq Y (Zf (ov Y) Y Y Zfd)<|Rq Y (Zu (ov Y) Y Y Y ZlN Y)<|Rm Y<|Rm Y<|Rq Y (Jw (ys := [_, _]) ZlO ZlI Zkb (.cons (cvs (ov Y)<|Zm Y) .nil) Y)<|bE h fun x22 h_x22 h=>Rq Y (QI (ov Y) (ov Y) ZlG Y Y h_x22)<|Rx Y (Jh (u' := (ring_spot.mk y 0)) (ov Y) (ov Y) (ZC Zg1 Y) Y Y h_x22 Y (Zb Y) Y)<|Za<|⟨_, h, ES [some 0, some 1, some 2, some 3, some 4] (hhp := .cons Y (ro1 (by exact tZ_102.symm)<|rlc (ZdX (Eq.symm<|(List.length_set ..).trans<|(List.length_set ..).trans<|(List.length_set ..).trans Y) Y)<|rlc (ZdX (Eq.symm<|(List.length_set ..).trans Y) Y)<|rlc (.dat Y)<|rlc (.dat Y)<|rlc (.dat Y)<|rlc (.dat Y)<|rlc (.dat Y) rln)<|.dead<|.dead<|.cons Y (roO QR)<|.cons Y (roM D105) .nil)⟩
   ·
    exact Zi<|⟨_, h, ES [some 0, some 1, some 2, some 3, some 4] (hhp := .cons Y (ro1 (by exact tZ_102.symm)<|rlc (ZdX (Eq.symm<|(List.length_set ..).trans<|(List.length_set ..).trans<|(List.length_set ..).trans Y) Y)<|rlc (.own _ Y)<|rlc (.dat Y)<|rlc (.dat Y)<|rlc (.dat Y)<|rlc (.dat Y)<|rlc (.dat Y) rln)<|.dead<|.dead<|.cons Y (roO QR)<|.cons Y (roM D105) .nil)⟩
  ·
   refine Tr<|Rm Y<|Rm Y<|Ra Y<|Ra Y<|Za<|?_
   obtain rfl := rt h
   exact Zp<|Za2 [some 0, some 1, some 2, some 3, some 4] Y (.cons (.tmp Y)<|.cons (.tmp Y) .nil) (.cons Y (ro1 (by exact tZ_102.symm)<|rlc (.own _ Y)<|rlc (.own _ Y)<|rlc (.dat Y)<|rlc (.dat Y)<|rlc (.dat Y)<|rlc (.dat Y)<|rlc (.dat Y) rln)<|.dead<|.dead<|.cons Y (roO QR)<|.cons Y (roM D105) .nil) Y Y<|Xw<|rlc (.dat Y)<|rlc (.dat Y) rln
theorem Zdu {b : ring_Recorder} {k : Int} {data : List Int} {power : Int} {r : Int × Bool × ring_Recorder} (h : XY b k data power = some r) :
 GSpec Tryz.prog gl0 71 [.ptr 0 1 0 0, .int .i64 k, .slf 5 (List.map R5 data), .int .i64 power] [some ⟨102, [[.own 1 b.bank.memories.length, .own 2 b.bank.spots.length, .int .i64 b.copies, .bool b.frozen, .bool b.stopped, .int .i64 b.last, .bool b.some_]]⟩, some ⟨26, List.map O26 b.bank.memories⟩, some ⟨105, List.map R105 b.bank.spots⟩] (.tuple [.int .i64 r.1, .bool r.2.1]) [some ⟨102, [[.own 3 r.2.2.bank.memories.length, .own 4 r.2.2.bank.spots.length, .int .i64 r.2.2.copies, .bool r.2.2.frozen, .bool r.2.2.stopped, .int .i64 r.2.2.last, .bool r.2.2.some_]]⟩, none, none, some ⟨26, List.map O26 r.2.2.bank.memories⟩, some ⟨105, List.map R105 r.2.2.bank.spots⟩] := by
 unfold XY at h
 replace h := QF h
 refine QO (by kernel_rfl) Tryz.func71 Y Y<|?_
 intro w0 A W φ0
 refine ZfV (Ent.sel [some 0, some 1, some 2, some 1, some 2] (sr 0 Y (.ptr (r' := 0) _ _ _ Y)<|sd 1 Y Y<|sd 2 Y Y<|sd 3 Y Y sn) (.cons Y (ro1 (by exact tZ_102.symm)<|rlc (.own (r' := 3) _ Y)<|rlc (.own (r' := 4) _ Y)<|rlc (.dat Y)<|rlc (.dat Y)<|rlc (.dat Y)<|rlc (.dat Y)<|rlc (.dat Y) rln)<|.dead<|.dead<|.cons Y (roO QR)<|.cons Y (roM D105) .nil) Y Y)<|QP [some ⟨102, [[.own 3 b.bank.memories.length, .own 4 b.bank.spots.length, .int .i64 b.copies, .bool b.frozen, .bool b.stopped, .int .i64 b.last, .bool b.some_]]⟩, none, none, some ⟨26, List.map O26 b.bank.memories⟩, some ⟨105, List.map R105 b.bank.spots⟩] Y<|Tr<|Ra Y<|Ra Y<|Za<|J8 (fun j => (.inr j)) (fun memories spots copies frozen stopped last some_ power2=>⟨[(0, .ptr 0 1 0 0), (1, .int .i64 k), (2, .slf 5 (List.map R5 data)), (3, .int .i64 power2)], [some ⟨102, [[.own 3 memories.length, .own 4 spots.length, .int .i64 copies, .bool frozen, .bool stopped, .int .i64 last, .bool some_]]⟩, none, none, some ⟨26, List.map O26 memories⟩, some ⟨105, List.map R105 spots⟩]⟩) h (fun h=>?_) fun memories spots copies frozen stopped last some_ power2 h=>?_
 ·
  refine K4 0 1 2 3 Y<|Tr<|Rm Y<|Rm Y<|bE h fun y h_y h=>Rq Y (Zch (Za7 h_y) .bool<|.cons (ov Y) (View.ptrS (j := 0) (k := 2) Y Y Y (Nat.le_of_ble_eq_true Y)<|.cons (View.ownO Y Y QR (fun x=>(D26 x).1) Zju)<|.cons (View.ownM Y Y D105) .nil)<|.cons (ov Y) (Dat.view<|.b Y) .nil)<|Za<|K5 0 1 2 3 15 Y<|If h Y (fun h=>?_) fun h=>?_
  ·
   refine K4 0 1 2 3 Y<|Tr<|Ra Y<|Za<|Tr<|Rm Y<|Rm Y<|Rm Y<|bE h fun y2 h_y2 h=>Rx Y (ZH [0, 3, 4] (Zdy h_y2) (.cons (ov Y) (.ptr _ _ _ Y)<|.cons (ov Y) (.dat Y)<|.cons (ov Y) (.dat Y) .nil) (.cons Y (ro1 (by exact tZ_102.symm)<|rlc (.own _ Y)<|rlc (.own _ Y)<|rlc (.dat Y)<|rlc (.dat Y)<|rlc (.dat Y)<|rlc (.dat Y)<|rlc (.dat Y) rln)<|.cons Y (roO QR)<|.cons Y (roM D105) .nil) Y (.lent 0 (.inl Y) Y (ro1 (by exact tZ_102.symm)<|rlc (.own _<|.inr ⟨Nat.le_of_ble_eq_true Y, Y⟩)<|rlc (.own _<|.inr ⟨Nat.le_of_ble_eq_true Y, Y⟩)<|rlc (.dat Y)<|rlc (.dat Y)<|rlc (.dat Y)<|rlc (.dat Y)<|rlc (.dat Y) rln)<|.none<|.none<|.none<|.none<|.lent 3 (.inr ⟨Nat.le_of_ble_eq_true Y, Y⟩) Y (roO QR)<|.lent 4 (.inr ⟨Nat.le_of_ble_eq_true Y, Y⟩) Y (roM D105) .nil) Y Y<|Xw<|rld Y)<|Rm Y<|Rq Y (Zn (ov Y) Y)<|Rq Y (Zn (ov Y) Y)<|Ra Y<|Ra Y<|Za<|K5 0 1 2 3 10 Y<|QP [some ⟨102, [[.own 5 y2.2.2.bank.memories.length, .own 6 y2.2.2.bank.spots.length, .int .i64 y2.2.2.copies, .bool y2.2.2.frozen, .bool y2.2.2.stopped, .int .i64 y2.2.2.last, .bool y2.2.2.some_]]⟩, none, none, none, none, some ⟨26, List.map O26 y2.2.2.bank.memories⟩, some ⟨105, List.map R105 y2.2.2.bank.spots⟩] Y<|Tr<|Rm Y<|R1 J7 Y<|Za<|K5 0 1 2 3 24 Y<|If h Y (fun h=>?_) fun h=>?_
   ·
    refine K1 3 Y<|Tr<|Rm Y<|Ra Y<|Ra Y<|Za<|?_
    obtain rfl := rt h
    exact Zp<|Za2 [some 0, some 1, some 2, some 5, some 6] Y (.cons (.tmp Y)<|.cons (.tmp Y) .nil) (.cons Y (ro1 (by exact tZ_102.symm)<|rlc (.own _ Y)<|rlc (.own _ Y)<|rlc (.dat Y)<|rlc (.dat Y)<|rlc (.dat Y)<|rlc (.dat Y)<|rlc (.dat Y) rln)<|.dead<|.dead<|.cons Y (roO QR)<|.cons Y (roM D105) .nil) Y Y<|Xw<|rlc (.dat Y)<|rlc (.dat Y) rln
   ·
    exact Zi<|⟨_, h, ES [some 0, some 1, some 2, some 5, some 6] (hhp := .cons Y (ro1 (by exact tZ_102.symm)<|rlc (.own _ Y)<|rlc (.own _ Y)<|rlc (.dat Y)<|rlc (.dat Y)<|rlc (.dat Y)<|rlc (.dat Y)<|rlc (.dat Y) rln)<|.dead<|.dead<|.cons Y (roO QR)<|.cons Y (roM D105) .nil)⟩
  ·
   exact Zi<|⟨_, h, ES [some 0, some 1, some 2, some 3, some 4] (hhp := .cons Y (ro1 (by exact tZ_102.symm)<|rlc (.own _ Y)<|rlc (.own _ Y)<|rlc (.dat Y)<|rlc (.dat Y)<|rlc (.dat Y)<|rlc (.dat Y)<|rlc (.dat Y) rln)<|.dead<|.dead<|.cons Y (roO QR)<|.cons Y (roM D105) .nil)⟩
 ·
  replace h := elr h
  replace h := t8i h
  refine Tr<|Rm Y<|Rq Y (ZB (ov Y) Y Y)<|Rq Y (Zf (ov Y) Y Y Zfd)<|Rq Y (Zu (ov Y) Y Y Y ZlN Y)<|Rm Y<|bE h fun x h_x h=>Rq Y (QI (ov Y) (ov Y) ZlG Y Y h_x)<|Ra Y<|Za<|Zj<|K5 0 1 2 3 11 Y<|bE h fun x2 h_x2 h=>ZfV (Ent.focusH (r := 3) (j := 2) (e' := 49) (g := O49) (ys := x2.Sectors) Y (ZN h_x2).2 Y Xi)<|bE h fun x3 h_x3 h=>ZfV (Ent.focusH (r := 5) (j := 0) (e' := 5) (g := R5) (ys := x3) Y (ZN h_x3).2 Y DR5)<|QH (cw := ⟨true, true, [some ⟨102, [[.own 3 memories.length, .own 4 spots.length, .int .i64 copies, .bool frozen, .bool stopped, .int .i64 last, .bool some_]]⟩, none, none, some ⟨26, List.set (List.map O26 memories) k.toNat [.int .i64 x2.Slots, .int .i64 x2.Limit, .own 5 x2.Sectors.length, .osub 3 (List.map R3 x2.Wear), .osub 4 (List.map R4 x2.Bad)]⟩, some ⟨105, List.map R105 spots⟩, some ⟨49, List.set (List.map O49 x2.Sectors) x.sector.toNat [.own 6 x3.length]⟩, some ⟨5, List.map R5 x3⟩], [], [6]⟩) (by kernel_rfl)<|Z9 0 _ Y (by kernel_rfl) Y Y (fun hp'=>Zc<|ov Y)<|Jr 1 _ Y (by kernel_rfl) Y Y Y (EL.ext<|.keep<|.keep<|.keep<|.keep<|.keep<|.keep<|.wr Y Y Y .nil) (fun hp' hx=>ZB (ov Y) (hx.get Y Y) Y)<|Jr 2 _ Y (by kernel_rfl) Y Y Y (EL.ext<|.keep<|.keep<|.keep<|.keep<|.keep<|.keep<|.wr Y Y Y .nil) (fun hp' hx=>Zf (ov Y) (hx.get Y Y) Y ZcN)<|Jr 3 _ Y (by kernel_rfl) Y Y Y (EL.ext<|.keep<|.keep<|.keep<|.keep<|.keep<|.keep<|.wr Y Y Y .nil) (fun hp' hx=>Zu (ov Y) (hx.get Y Y) Y Y ZjN Y)<|Z9 4 _ Y (by kernel_rfl) Y Y (fun hp'=>Zc<|ov Y)<|bE h fun x4 h_x4 h=>Jr 5 _ Y (by kernel_rfl) Y Y Y (EL.ext<|.keep<|.keep<|.keep<|.keep<|.keep<|.keep<|.wr Y Y Y .nil) (fun hp' hx=>Zlv (ov Y) (ov Y) Zbh (hx.get Y Y) Y h_x4)<|Jr 6 _ Y (by kernel_rfl) Y Y Y (EL.ext<|.keep<|.keep<|.keep<|.keep<|.keep<|.keep<|.wr Y Y Y .nil) (fun hp' hx=>Zj5 (ov Y) (hx.get Y Y) Y ZF)<|Jr 7 _ Y (by kernel_rfl) Y Y Y (EL.ext<|.keep<|.keep<|.keep<|.keep<|.keep<|.keep<|.wr Y Y Y .nil) (fun hp' hx=>ZcZ (ov Y) (hx.get Y Y) Y (ZN h_x2).2 Qc Y)<|Z9 8 _ Y (by kernel_rfl) Y Y (fun hp'=>Zc<|ov Y)<|Jr 9 _ Y (by kernel_rfl) Y Y Y (EL.ext<|.keep<|.keep<|.keep<|.keep<|.keep<|.keep<|.wr Y Y Y .nil) (fun hp' hx=>ZB (ov Y) (hx.get Y Y)<|List.length_map ..)<|Jr 10 _ Y (by kernel_rfl) Y Y Y (EL.ext<|.keep<|.keep<|.keep<|.keep<|.keep<|.keep<|.wr Y Y Y .nil) (fun hp' hx=>ZdH (ov Y) (hx.get Y Y) Y Zgc)<|Jr 11 _ Y (by kernel_rfl) Y Y Y (EL.ext<|.keep<|.keep<|.keep<|.keep<|.keep<|.keep<|.wr Y Y Y .nil) (fun hp' hx=>QG (ov Y) (hx.get Y Y) Y h_x tS3 Y)<|bE h fun x5 h_x5 h=>Jr 12 _ Y (by kernel_rfl) Y Y Y (EL.ext<|.keep<|.keep<|.keep<|.keep<|.keep<|.keep<|.wr Y Y Y .nil) (fun hp' hx=>Zlv (ov Y) (ov Y) ZZ (hx.get Y Y) Y h_x5)<|Jr 13 _ Y (by kernel_rfl) Y Y Y (EL.ext<|.keep<|.keep<|.keep<|.keep<|.keep<|.keep<|.wr Y Y Y .nil) (fun hp' hx=>ZcZ (ov Y) (hx.get Y Y) Y (ZN h_x3).2 ZgI Y)<|Z9 14 _ Y (by kernel_rfl) Y Y (fun hp'=>Zc<|ov Y)<|Jr 15 _ Y (by kernel_rfl) Y Y Y (EL.ext<|.keep<|.keep<|.keep<|.keep<|.keep<|.keep<|.wr Y Y Y .nil) (fun hp' hx=>ZB (ov Y) (hx.get Y Y)<|List.length_map ..)<|Jr 16 _ Y (by kernel_rfl) Y Y Y (EL.ext<|.keep<|.keep<|.keep<|.keep<|.keep<|.keep<|.wr Y Y Y .nil) (fun hp' hx=>ZdH (ov Y) (hx.get Y Y) Y Zg4)<|Jr 17 _ Y (by kernel_rfl) Y Y Y (EL.ext<|.keep<|.keep<|.keep<|.keep<|.keep<|.keep<|.wr Y Y Y .nil) (fun hp' hx=>QG (ov Y) (hx.get Y Y) Y h_x tS3 Y)<|Z9 18 _ Y (by kernel_rfl) Y Y (fun hp'=>Zpb (ov Y) (ov Y) Y)<|Z9 19 _ Y (by kernel_rfl) Y Y (fun hp'=>ZjW (ov Y) (ov Y) Y)<|Z9 20 _ Y (by kernel_rfl) Y Y (fun hp'=>Zc<|ov Y)<|Z9 23 _ Y (by kernel_rfl) Y Y (fun hp'=>Zc<|ov Y)<|Zav 21 (.sl 5<|List.map R5 ([0] : List Int)) _ Y (by kernel_rfl) Y Y (fun h=>by cases h) (fun _=>by exact EL.ext (.keep <| .keep <| .keep <| .keep <| .keep <| .keep <| .wr rfl rfl rfl <| .nil)) (JF<|Zal QU (.cons (cvs (ov Y)<|Zm Y) Y (.cons (.b Y) .nil) .nil) Y Y)<|bE h fun l h_l h=>Zav 22 _ _ Y (by kernel_rfl) Y Y (fun h=>by cases h) (fun _=>by exact EL.ext (.keep <| .keep <| .keep <| .keep <| .keep <| .keep <| .wr rfl rfl rfl <| .nil)) (JF<|Zmw (f := R5) (ov Y) (QY (ov Y) tZ_5) QU Y Y (fun x=>(D5 x).2) h_l)<|bE h fun y3 h_y3 h=>Zav 24 _ _ Y (by kernel_rfl) Y Y (fun h=>by cases h) (fun _=>by exact EL.ext (.keep <| .keep <| .keep <| .keep <| .keep <| .keep <| .wr rfl rfl ((List.length_map ..).trans (Eq.trans (ZaV h_y3) (Eq.symm ((List.length_map ..).trans rfl)))) <| .nil)) (ZH [6] (ZeL h_y3) (.cons (ov Y) (.own _ Y)<|.cons (ov Y) (.dat Y)<|.cons (ov Y) (.dat Y)<|.cons (ov Y) (.dat Y) .nil) (.cons Y (roM D5) .nil) Y (.keep Y Y<|.none<|.none<|.keep Y Y<|.keep Y Y<|.keep Y Y<|.lent 0 (.inl Y) Y (roM D5) .nil) Y Y<|Xw<|rld Y)<|D1 25 Zc Y<|Dq 26 Y (Zn (ov Y) Y)<|Dq 27 Y (Zn (ov Y) Y)<|D1 28 Q1 Y<|D1 29 Q1 Y<|?_
  have h_x6 := JA (y := y3.2.2) h_x5
  have h_x7 := JA (y := (api_Memory.mk x2.Slots x2.Limit (x2.Sectors.set x.sector.toNat y3.2.2) x2.Wear x2.Bad)) h_x4
  have h_x8 := JA (y := (api_Memory.mk x2.Slots x2.Limit (x2.Sectors.set x.sector.toNat y3.2.2) x2.Wear x2.Bad)) h_x4
  refine Z4 (by kernel_rfl) (Ent.trans (Ent.absorbH (r := 5) (j := 0) (q := 6) Y (ZN h_x3).2 Y Y ((List.length_map ..).trans<|ZaV h_y3) Y)<|Ent.trans (Ent.closeH (r := 5) (y := y3.2.2) Y Y)<|Ent.trans (Ent.absorbH (r := 3) (j := 2) (q := 5) Y (ZN h_x2).2 Y Y ((List.length_map ..).trans<|(List.length_set ..).trans Y) Y)<|Ent.closeH (r := 3) (y := (api_Memory.mk x2.Slots x2.Limit (x2.Sectors.set x.sector.toNat y3.2.2) x2.Wear x2.Bad)) Y Y)<|K3 3 11 12 Y<|QP [some ⟨102, [[.own 3 memories.length, .own 4 spots.length, .int .i64 copies, .bool frozen, .bool stopped, .int .i64 last, .bool some_]]⟩, none, none, some ⟨26, List.map O26 (memories.set k.toNat (api_Memory.mk x2.Slots x2.Limit (x2.Sectors.set x.sector.toNat y3.2.2) x2.Wear x2.Bad))⟩, some ⟨105, List.map R105 spots⟩, none, none] Y<|Tr<|Rm Y<|Rq Y (ZB (ov Y) Y<|List.length_map ..)<|Rq Y (ZdH (ov Y) Y Y Zg4)<|Rq Y (QG (ov Y) Y Y h_x tS3 Y)<|R2 ZX Y<|Rq Y (ZB (ov Y) Y<|List.length_map ..)<|Rq Y (ZdH (ov Y) Y Y Zg4)<|Rx Y (Jh (u' := (ring_spot.mk x.sector (i64 (x.slot + 1)))) (ov Y) (ov Y) (Zd tS3) Y Y h_x Y (Zb Y) Y)<|Za<|K2 3 12 Y<|QP [some ⟨102, [[.own 3 memories.length, .own 4 spots.length, .int .i64 copies, .bool frozen, .bool stopped, .int .i64 last, .bool some_]]⟩, none, none, some ⟨26, List.map O26 (memories.set k.toNat (api_Memory.mk x2.Slots x2.Limit (x2.Sectors.set x.sector.toNat y3.2.2) x2.Wear x2.Bad))⟩, some ⟨105, List.map R105 (spots.set k.toNat (ring_spot.mk x.sector (i64 (x.slot + 1))))⟩, none, none] Y<|Tr<|Rm Y<|Rm Y<|Ra Y<|Ra Y<|Za<|?_
  obtain rfl := rt h
  exact Zp<|Za2 [some 0, some 1, some 2, some 3, some 4] Y (.cons (.tmp Y)<|.cons (.tmp Y) .nil) (.cons Y (ro1 (by exact tZ_102.symm)<|rlc (ZdX (Eq.symm<|(List.length_set ..).trans Y) Y)<|rlc (ZdX (Eq.symm<|(List.length_set ..).trans Y) Y)<|rlc (.dat Y)<|rlc (.dat Y)<|rlc (.dat Y)<|rlc (.dat Y)<|rlc (.dat Y) rln)<|.dead<|.dead<|.cons Y (roO QR)<|.cons Y (roM D105) .nil) Y Y<|Xw<|rlc (.dat Y)<|rlc (.dat Y) rln
theorem ZaX {r_ : ring_Recorder} {f : Vector Int 64} {power : Int} {r : Int × Bool × Int × ring_Recorder} (h : Qv r_ f power = some r) :
 GSpec Tryz.prog gl0 17 [.ptr 0 1 0 0, .agg (List.map C40 f.toList), .int .i64 power] [some ⟨102, [[.own 1 r_.bank.memories.length, .own 2 r_.bank.spots.length, .int .i64 r_.copies, .bool r_.frozen, .bool r_.stopped, .int .i64 r_.last, .bool r_.some_]]⟩, some ⟨26, List.map O26 r_.bank.memories⟩, some ⟨105, List.map R105 r_.bank.spots⟩] (.tuple [.int .i64 r.1, .bool r.2.1, .int .i64 r.2.2.1]) [some ⟨102, [[.own 3 r.2.2.2.bank.memories.length, .own 4 r.2.2.2.bank.spots.length, .int .i64 r.2.2.2.copies, .bool r.2.2.2.frozen, .bool r.2.2.2.stopped, .int .i64 r.2.2.2.last, .bool r.2.2.2.some_]]⟩, none, none, some ⟨26, List.map O26 r.2.2.2.bank.memories⟩, some ⟨105, List.map R105 r.2.2.2.bank.spots⟩] := by
 unfold Qv at h
 replace h := QF h
 refine QO (by kernel_rfl) Tryz.func17 Y Y<|?_
 intro w0 A W φ0
 refine ZfV (Ent.sel [some 0, some 1, some 2, some 1, some 2] (sr 0 Y (.ptr (r' := 0) _ _ _ Y)<|sr 1 Y (Zd2<|rld<|arD fun _ => Y)<|sd 2 Y Y sn) (.cons Y (ro1 (by exact tZ_102.symm)<|rlc (.own (r' := 3) _ Y)<|rlc (.own (r' := 4) _ Y)<|rlc (.dat Y)<|rlc (.dat Y)<|rlc (.dat Y)<|rlc (.dat Y)<|rlc (.dat Y) rln)<|.dead<|.dead<|.cons Y (roO QR)<|.cons Y (roM D105) .nil) Y Y)<|QP [some ⟨102, [[.own 3 r_.bank.memories.length, .own 4 r_.bank.spots.length, .int .i64 r_.copies, .bool r_.frozen, .bool r_.stopped, .int .i64 r_.last, .bool r_.some_]]⟩, none, none, some ⟨26, List.map O26 r_.bank.memories⟩, some ⟨105, List.map R105 r_.bank.spots⟩] Y<|Tr<|Rq Y (ZcB (cva<|ov Y) arL tZ_42<|arD fun _ => Y)<|Ra Y<|Ra Y<|Ra Y<|Za<|Zj<|K3 0 2 4 Y<|Tr<|Rm Y<|Rm Y<|bE h fun y h_y h=>Rq Y (Zch (Zfs h_y) .int<|.cons (ov Y) (View.ptrS (j := 0) (k := 7) Y Y Y (Nat.le_of_ble_eq_true Y)<|.cons (View.ownO Y Y QR (fun x=>(D26 x).1) Zju)<|.cons (View.ownM Y Y D105)<|.cons (Dat.view<|.b Y)<|.cons (Dat.view<|.b Y)<|.cons (Dat.view<|.b Y)<|.cons (Dat.view<|.b Y)<|.cons (Dat.view<|.b Y) .nil)<|.cons (ov Y) (Dat.view<|.b Y) .nil)<|Ra Y<|Za<|K4 0 2 4 9 Y<|Tr<|Rm Y<|R2 Jc Y<|Za<|K5 0 2 4 9 23 Y<|If h Y (fun h=>?_) fun h=>?_
 ·
  refine K1 9 Y<|Tr<|Rm Y<|Ra Y<|Ra Y<|Ra Y<|Za<|?_
  obtain rfl := rt h
  exact Zp<|Za2 [some 0, some 1, some 2, some 3, some 4] Y (.cons (.tmp Y)<|.cons (.tmp Y)<|.cons (.tmp Y) .nil) (.cons Y (ro1 (by exact tZ_102.symm)<|rlc (.own _ Y)<|rlc (.own _ Y)<|rlc (.dat Y)<|rlc (.dat Y)<|rlc (.dat Y)<|rlc (.dat Y)<|rlc (.dat Y) rln)<|.dead<|.dead<|.cons Y (roO QR)<|.cons Y (roM D105) .nil) Y Y<|Xw<|rlc (.dat Y)<|rlc (.dat Y)<|rlc (.dat Y) rln
 ·
  refine Zi<|Zj<|K3 0 2 4 Y<|Tr<|Rq Y (Q6 (ov Y) JW (Xc<|Zz arL) arL)<|bE h fun y2 h_y2 h=>Rq Y (Zw (ZfK h_y2)<|.cons (ov Y) (.aggB<|arD fun _ => Y) .nil)<|Rl tZ_149 ZeQ Y<|R2 Zde Y<|Za<|K4 0 2 4 28 Y<|If h Y (fun h=>?_) fun h=>?_
  ·
   refine K0<|Tr<|Ra Y<|Ra Y<|Ra Y<|Za<|?_
   obtain rfl := rt h
   exact Zp<|Za2 [some 0, some 1, some 2, some 3, some 4] Y (.cons (.tmp Y)<|.cons (.tmp Y)<|.cons (.tmp Y) .nil) (.cons Y (ro1 (by exact tZ_102.symm)<|rlc (.own _ Y)<|rlc (.own _ Y)<|rlc (.dat Y)<|rlc (.dat Y)<|rlc (.dat Y)<|rlc (.dat Y)<|rlc (.dat Y) rln)<|.dead<|.dead<|.cons Y (roO QR)<|.cons Y (roM D105) .nil) Y Y<|Xw<|rlc (.dat Y)<|rlc (.dat Y)<|rlc (.dat Y) rln
  ·
   refine Zi<|K3 0 2 4 Y<|Tr<|Rq Y (Q6 (ov Y) JW (Xc<|Zz arL) arL)<|bE h fun y3 h_y3 h=>Rq Y (Zw (Zfk h_y3)<|.cons (ov Y) (.aggB<|arD fun _ => Y) .nil)<|Rm Y<|Rq Y (Zn (ov Y) Y)<|Rq Y (Zn (ov Y) Y)<|Ra Y<|Ra Y<|Za<|Zj<|K4 0 2 4 10 Y<|QH (cw := md0) (by kernel_rfl)<|D1 0 Zc Y<|D1 1 Zc Y<|Dq 2 Y (ZB (ov Y) Y Y)<|Dq 3 Y (Zf (ov Y) Y Y ZdE)<|Dq 4 Y (Zf (ov Y) Y Y ZcN)<|Dq 5 Y (Zu (ov Y) Y Y Y ZjN Y)<|Dq 6 Y (ZfR (ov Y) Y Y Zbh)<|D1 7 Zc Y<|Dq 8 Y (ZB (ov Y) Y Y)<|Dq 9 Y (Zf (ov Y) Y Y Zoo)<|Dq 10 Y (Zu (ov Y) Y Y Y tS3 Y)<|bE h fun y4 h_y4 h=>Dq 11 Y (Zw (Ziw h_y4)<|.cons (ov Y) (.b Y)<|.cons (ov Y) (.b Y)<|.cons (ov Y) (.b Y) .nil)<|D1 12 Q1 Y<|Dd<|Zj<|K5 0 2 4 10 12 Y<|Tr<|Rm Y<|Rq Y (ZB (ov Y) Y Y)<|Rq Y (Zf (ov Y) Y Y ZdE)<|Rm Y<|bE h fun y5 h_y5 h=>Rq Y (Zch (ZgU h_y5) .int<|.cons (ov Y) (View.ptrS (j := 0) (k := 2) Y Y Y (Nat.le_of_ble_eq_true Y)<|.cons (View.ownO Y Y QR (fun x=>(D26 x).1) Zju)<|.cons (View.ownM Y Y D105) .nil)<|.cons (ov Y) (Dat.view<|.b Y) .nil)<|Ra Y<|Za<|K6 0 2 4 10 12 13 Y<|Tr<|Rm Y<|R2 Jc Y<|Za<|K7 0 2 4 10 12 13 52 Y<|If h Y (fun h=>?_) fun h=>?_
   ·
    refine K1 13 Y<|Tr<|Rm Y<|Ra Y<|Ra Y<|Ra Y<|Za<|?_
    obtain rfl := rt h
    exact Zp<|Za2 [some 0, some 1, some 2, some 3, some 4] Y (.cons (.tmp Y)<|.cons (.tmp Y)<|.cons (.tmp Y) .nil) (.cons Y (ro1 (by exact tZ_102.symm)<|rlc (.own _ Y)<|rlc (.own _ Y)<|rlc (.dat Y)<|rlc (.dat Y)<|rlc (.dat Y)<|rlc (.dat Y)<|rlc (.dat Y) rln)<|.dead<|.dead<|.cons Y (roO QR)<|.cons Y (roM D105) .nil) Y Y<|Xw<|rlc (.dat Y)<|rlc (.dat Y)<|rlc (.dat Y) rln
   ·
    refine Zi<|K5 0 2 4 10 12 Y<|Tr<|Rq Y (Q6 (ov Y) JW (Xc<|Zz arL) arL)<|bE h fun y6 h_y6 h=>Rq Y (Zw (ZhU h_y6)<|.cons (ov Y) (.aggB<|arD fun _ => Y) .nil)<|Rm Y<|Rq Y (Zn (ov Y) Y)<|Rq Y (Zn (ov Y) Y)<|Ra Y<|Ra Y<|Za<|J8 (fun j => (.inr j)) (fun memories spots copies frozen stopped last some_ power2=>⟨[(0, .ptr 0 1 0 0), (2, .int .i64 power2), (10, .int .i64 y3.1)], [some ⟨102, [[.own 3 memories.length, .own 4 spots.length, .int .i64 copies, .bool frozen, .bool stopped, .int .i64 last, .bool some_]]⟩, none, none, some ⟨26, List.map O26 memories⟩, some ⟨105, List.map R105 spots⟩]⟩) h (fun h=>?_) fun memories spots copies frozen stopped last some_ power2 h=>?_
    ·
     refine K5 0 2 10 12 14 Y<|Tr<|Rm Y<|Rl tZ_3 Q3 Y<|Rm Y<|Za<|Zg<|?_
     obtain ⟨r1, hl1, ho1⟩ := Xj h
     refine L9 (fun memories2 spots2 copies2 frozen2 stopped2 last2 some_2 power3 i=>⟨[(0, .ptr 0 1 0 0), (2, .int .i64 power3), (10, .int .i64 y3.1), (14, .sl 5 (List.map R5 y6.1)), (59, .sl 3 (List.map R3 y4)), (60, .int .i64 (y4.length : Int)), (61, .int .i64 i)], [some ⟨102, [[.own 3 memories2.length, .own 4 spots2.length, .int .i64 copies2, .bool frozen2, .bool stopped2, .int .i64 last2, .bool some_2]]⟩, none, none, some ⟨26, List.map O26 memories2⟩, some ⟨105, List.map R105 spots2⟩]⟩) hl1 (ES [some 0, some 1, some 2, some 3, some 4] (hhp := .cons Y (ro1 (by exact tZ_102.symm)<|rlc (.own _ Y)<|rlc (.own _ Y)<|rlc (.dat Y)<|rlc (.dat Y)<|rlc (.dat Y)<|rlc (.dat Y)<|rlc (.dat Y) rln)<|.dead<|.dead<|.cons Y (roO QR)<|.cons Y (roM D105) .nil)) fun n1 memories2 spots2 copies2 frozen2 stopped2 last2 some_2 power3 i h=>?_
     unfold Z6 at h
     refine Tr<|R2 ZY Y<|Za<|Zj<|If h Y (fun h=>?_) fun h=>?_
     ·
      refine Zi<|Zj<|Zg<|K7 0 2 10 14 59 60 61 Y<|Tr<|bE h fun x h_x h=>Rq Y (Ql (ov Y) (ov Y) Q3 h_x)<|Rq Y (Ze (ov Y) tS3 Y)<|Ra Y<|Za<|K8 0 2 10 14 17 59 60 61 Y<|Tr<|Ra Y<|Za<|Zj<|QH (cw := ⟨true, false, [], [], []⟩) (by kernel_rfl)<|D1 0 Zc Y<|Dq 1 Y (ZB (ov Y) Y Y)<|Dq 2 Y (Zf (ov Y) Y Y ZdE)<|D1 3 Zc Y<|D1 4 Zc Y<|D1 5 Zc Y<|Dq 6 Y (ZkH (QY (ov Y) tZ_5) QU<|ZgX _ _)<|D1 7 Zc Y<|Dq 8 Y (ZkH (QY (ov Y) tZ_5) QU<|ZgX _ _)<|bE h fun l h_l h=>Dq 9 Y (ZmD (ov Y) QU (ov Y) (ov Y) h_l)<|D1 10 Zc Y<|bE h fun y7 h_y7 h=>Do 11 Y (ZH [0, 3, 4] (Zdu h_y7) (.cons (ov Y) (.ptr _ _ _ Y)<|.cons (ov Y) (.dat Y)<|.cons (ov Y) (.dat Y)<|.cons (ov Y) (.dat Y) .nil) (.cons Y (ro1 (by exact tZ_102.symm)<|rlc (.own _ Y)<|rlc (.own _ Y)<|rlc (.dat Y)<|rlc (.dat Y)<|rlc (.dat Y)<|rlc (.dat Y)<|rlc (.dat Y) rln)<|.cons Y (roO QR)<|.cons Y (roM D105) .nil) Y (.lent 0 (.inl Y) Y (ro1 (by exact tZ_102.symm)<|rlc (.own _<|.inr ⟨Nat.le_of_ble_eq_true Y, Y⟩)<|rlc (.own _<|.inr ⟨Nat.le_of_ble_eq_true Y, Y⟩)<|rlc (.dat Y)<|rlc (.dat Y)<|rlc (.dat Y)<|rlc (.dat Y)<|rlc (.dat Y) rln)<|.none<|.none<|.none<|.none<|.lent 3 (.inr ⟨Nat.le_of_ble_eq_true Y, Y⟩) Y (roO QR)<|.lent 4 (.inr ⟨Nat.le_of_ble_eq_true Y, Y⟩) Y (roM D105) .nil) Y Y<|Xw<|rld Y)<|D1 12 Zc Y<|Dq 13 Y (Zn (ov Y) Y)<|Dq 14 Y (Zn (ov Y) Y)<|D1 15 Q1 Y<|D1 16 Q1 Y<|Dd<|K8 0 2 10 14 18 59 60 61 Y<|QP [some ⟨102, [[.own 5 y7.2.2.bank.memories.length, .own 6 y7.2.2.bank.spots.length, .int .i64 y7.2.2.copies, .bool y7.2.2.frozen, .bool y7.2.2.stopped, .int .i64 y7.2.2.last, .bool y7.2.2.some_]]⟩, none, none, none, none, some ⟨26, List.map O26 y7.2.2.bank.memories⟩, some ⟨105, List.map R105 y7.2.2.bank.spots⟩] Y<|Tr<|Rm Y<|R1 J7 Y<|Za<|K8 0 2 10 14 59 60 61 81 Y<|If h Y (fun h=>?_) fun h=>?_
      ·
       refine K2 0 2 Y<|Tr<|Rm Y<|Rq Y (ZB (ov Y) Y Y)<|Rq Y (Zf (ov Y) Y Y Zl2)<|Rx Y (Zh (ov Y) (ov Y) (Zd tS4) Y Y Y (Nat.le_of_ble_eq_true Y) (Zb Y) Y)<|Za<|K1 2 Y<|QP [some ⟨102, [[.own 5 y7.2.2.bank.memories.length, .own 6 y7.2.2.bank.spots.length, .int .i64 y7.2.2.copies, .bool y7.2.2.frozen, .bool true, .int .i64 y7.2.2.last, .bool y7.2.2.some_]]⟩, none, none, none, none, some ⟨26, List.map O26 y7.2.2.bank.memories⟩, some ⟨105, List.map R105 y7.2.2.bank.spots⟩] Y<|Tr<|Rm Y<|Ra Y<|Ra Y<|Ra Y<|Za<|?_
       replace h := lx h ▸ ho1
       obtain rfl := rt h
       exact Zp<|Za2 [some 0, some 1, some 2, some 5, some 6] Y (.cons (.tmp Y)<|.cons (.tmp Y)<|.cons (.tmp Y) .nil) (.cons Y (ro1 (by exact tZ_102.symm)<|rlc (.own _ Y)<|rlc (.own _ Y)<|rlc (.dat Y)<|rlc (.dat Y)<|rlc (.dat Y)<|rlc (.dat Y)<|rlc (.dat Y) rln)<|.dead<|.dead<|.cons Y (roO QR)<|.cons Y (roM D105) .nil) Y Y<|Xw<|rlc (.dat Y)<|rlc (.dat Y)<|rlc (.dat Y) rln
      ·
       exact Zi<|K7 0 2 10 14 59 60 61 Y<|Zt<|R2 ZX Y<|Rm Y<|Za<|⟨_, h, ES [some 0, some 1, some 2, some 5, some 6] (hhp := .cons Y (ro1 (by exact tZ_102.symm)<|rlc (.own _ Y)<|rlc (.own _ Y)<|rlc (.dat Y)<|rlc (.dat Y)<|rlc (.dat Y)<|rlc (.dat Y)<|rlc (.dat Y) rln)<|.dead<|.dead<|.cons Y (roO QR)<|.cons Y (roM D105) .nil)⟩
     ·
      refine ZS<|?_
      replace h := lx h ▸ ho1
      exact ⟨_, h, ES [some 0, some 1, some 2, some 3, some 4] (hhp := .cons Y (ro1 (by exact tZ_102.symm)<|rlc (.own _ Y)<|rlc (.own _ Y)<|rlc (.dat Y)<|rlc (.dat Y)<|rlc (.dat Y)<|rlc (.dat Y)<|rlc (.dat Y) rln)<|.dead<|.dead<|.cons Y (roO QR)<|.cons Y (roM D105) .nil)⟩
    ·
     replace h := elr h
     replace h := t8i h
     refine Tr<|Rm Y<|Rm Y<|Rm Y<|Rq Y (ZB (ov Y) Y Y)<|Rq Y (Zf (ov Y) Y Y Zor)<|Rx Y (Zh (ov Y) (ov Y) (Zd tS3) Y Y Y (Nat.le_of_ble_eq_true Y) (Zb Y) Y)<|Rq Y (ZB (ov Y) Y Y)<|Rq Y (Zf (ov Y) Y Y ZoV)<|Rx Y (Zh (ov Y) (ov Y) (Zd tS4) Y Y Y (Nat.le_of_ble_eq_true Y) (Zb Y) Y)<|Za<|K1 2 Y<|QP [some ⟨102, [[.own 3 memories.length, .own 4 spots.length, .int .i64 copies, .bool frozen, .bool stopped, .int .i64 y3.1, .bool true]]⟩, none, none, some ⟨26, List.map O26 memories⟩, some ⟨105, List.map R105 spots⟩] Y<|Tr<|Rm Y<|Ra Y<|Ra Y<|Ra Y<|Za<|?_
     obtain rfl := rt h
     exact Zp<|Za2 [some 0, some 1, some 2, some 3, some 4] Y (.cons (.tmp Y)<|.cons (.tmp Y)<|.cons (.tmp Y) .nil) (.cons Y (ro1 (by exact tZ_102.symm)<|rlc (.own _ Y)<|rlc (.own _ Y)<|rlc (.dat Y)<|rlc (.dat Y)<|rlc (.dat Y)<|rlc (.dat Y)<|rlc (.dat Y) rln)<|.dead<|.dead<|.cons Y (roO QR)<|.cons Y (roM D105) .nil) Y Y<|Xw<|rlc (.dat Y)<|rlc (.dat Y)<|rlc (.dat Y) rln
theorem ZiD {l : List api_Memory} {r : (List api_Memory)} (h : XF l = some r) :
 CSpec Tryz.prog gl0 63 [.sl 26 (List.map R26 l)] (.sl 26 (List.map R26 r)) := by
 unfold XF at h
 replace h := QF h
 refine So Tryz.func63 Y fun w0 A=>Tr<|Ra Y<|Za<|K1 0 Y<|Tr<|Ra Y<|Za<|I1 (fun out=>⟨[(3, .own 0 out.length)], [some ⟨26, List.map O26 out⟩]⟩) h (fun h=>?_) fun out h=>?_
 ·
  refine Tr<|Rm Y<|Rl tZ_26 Zbh Y<|Rm Y<|Za<|Zg<|?_
  obtain ⟨r1, hl1, ho1⟩ := Xj h
  refine L2 (fun out2 i=>⟨[(3, .own 0 out2.length), (6, .sl 26 (List.map R26 l)), (7, .int .i64 (l.length : Int)), (8, .int .i64 i)], [some ⟨26, List.map O26 out2⟩]⟩) hl1 (ES [none]) fun n1 out2 i h=>?_
  unfold Xs at h
  refine Tr<|R2 ZY Y<|Za<|Zj<|If h Y (fun h=>?_) fun h=>?_
  ·
   exact Zi<|Zj<|Zg<|K4 3 6 7 8 Y<|Tr<|bE h fun x h_x h=>Rq Y (Ql (ov Y) (ov Y) Zbh h_x)<|Rq Y (Q6 (ov Y) XS Y Y)<|Rx Y (Qf (row := [_, _, _, _, _]) 1 Y Zc4 Y tZ_26)<|Rx Y (Zh (ov Y) (ov Y) (ZC XS Y) Y Y Y (Nat.le_of_ble_eq_true Y) (Zb Y) Y)<|Za<|K5 3 5 6 7 8 Y<|QP [some ⟨26, List.map O26 out2⟩, some ⟨26, [[.int .i64 x.Slots, .int .i64 x.Limit, .sl 49 (List.map R49 x.Sectors), .sl 3 (List.map R3 x.Wear), .sl 4 (List.map R4 x.Bad)]]⟩] Y<|Zt<|Rm Y<|Rq Y (QB (ov Y) Y Y Y XS Y Y)<|bE h fun y h_y h=>Rx Y (ZH [] (Zc8 h_y) (.cons (ov Y) (Zd2<|rld Y) .nil) .nil Y (.keep Y Y<|.keep Y Y<|.lent 0 (.inr ⟨Nat.le_of_ble_eq_true Y, Y⟩) Y (roO Xi)<|.lent 1 (.inr ⟨Nat.le_of_ble_eq_true Y, Y⟩) Y (roM D3)<|.lent 2 (.inr ⟨Nat.le_of_ble_eq_true Y, Y⟩) Y (roM D4) .nil) Y Y<|Zd2<|rlc (.dat Y)<|rlc (.dat Y)<|rlc (.own _<|.inr ⟨Nat.le_of_ble_eq_true Y, Y⟩)<|rlc (.own _<|.inr ⟨Nat.le_of_ble_eq_true Y, Y⟩)<|rlc (.own _<|.inr ⟨Nat.le_of_ble_eq_true Y, Y⟩) rln)<|Rx Y (Qn (r := 5) Y Zbh (.cons (cva<|ov Y) Y .nil) Y Y)<|bE h fun l2 h_l2 h=>Rx Y (ZA (f := O26) (ov Y) (ZV (o := ⟨26, [[.int .i64 y.Slots, .int .i64 y.Limit, .own 2 y.Sectors.length, .own 3 y.Wear.length, .own 4 y.Bad.length]]⟩) (ov Y) Y Y tZ_26) Zbh Y Y (Zb Y) Y h_l2)<|Ra Y<|ZeS [some ⟨26, List.set (List.map O26 l2) out2.length [.int .i64 y.Slots, .int .i64 y.Limit, .own 2 y.Sectors.length, .own 3 y.Wear.length, .own 4 y.Bad.length]⟩, some ⟨26, [[.int .i64 x.Slots, .int .i64 x.Limit, .sl 49 (List.map R49 x.Sectors), .sl 3 (List.map R3 x.Wear), .sl 4 (List.map R4 x.Bad)]]⟩, some ⟨49, List.map O49 y.Sectors⟩, some ⟨3, List.map R3 y.Wear⟩, some ⟨4, List.map R4 y.Bad⟩, some ⟨26, [[.int .i64 y.Slots, .int .i64 y.Limit, .own 2 y.Sectors.length, .own 3 y.Wear.length, .own 4 y.Bad.length]]⟩] Y<|Xf (Ent.absorbH (r := 0) (j := 2) (q := 2) Y (Zk h_l2) Y Y (List.length_map ..) Y)<|Xf (Ent.absorbH (r := 0) (j := 3) (q := 3) Y (Zk h_l2) Y Y (List.length_map ..) Y)<|Xf (Ent.absorbH (r := 0) (j := 4) (q := 4) Y (Zk h_l2) Y Y (List.length_map ..) Y)<|Xf (Ent.closeS (r := 0) Y (Zk h_l2) Y)<|Za<|K4 3 6 7 8 Y<|QP [some ⟨26, List.map O26 l2⟩, some ⟨26, [[.int .i64 x.Slots, .int .i64 x.Limit, .sl 49 (List.map R49 x.Sectors), .sl 3 (List.map R3 x.Wear), .sl 4 (List.map R4 x.Bad)]]⟩, none, none, none, some ⟨26, [[.int .i64 y.Slots, .int .i64 y.Limit, .own 2 y.Sectors.length, .own 3 y.Wear.length, .own 4 y.Bad.length]]⟩] Y<|Zt<|R2 ZX Y<|Rm Y<|Za<|⟨_, h, ES [some 0] (hhp := .cons Y (roO QR) .nil)⟩
  ·
   refine ZS<|?_
   replace h := lx h ▸ ho1
   exact ⟨_, h, ES [some 0] (hhp := .cons Y (roO QR) .nil)⟩
 ·
  refine Tr<|Rm Y<|Ra Y<|Za<|?_
  obtain rfl := rt h
  exact Zp (Z5 Y (.one<|.tmp Y<|View.ownO Y Y QR (fun x=>(D26 x).1) Zju))
end Go.Proofs.YtnlmjeleocelgaaGreatDoor
