/- A text of the proof: a verified executor of the program form, or the contracts of the functions that the law reaches. -/
import Derived.Test.YtgohgnaapbpggaaGreatDoorOkRb
set_option linter.all false
namespace Go.Proofs.YtgohgnaapbpggaaGreatDoor
open Go Go.Vx
set_option maxRecDepth 10000
set_option maxHeartbeats 1000000
set_option linter.unusedVariables false
theorem Zfg {l : List api_Memory} {copies : Int} {r : Int} (h : ZaM l copies = some (.inl r)) :
    GSpec Tryz.prog gl0 13 [.sl 59 (List.map R59 l), .int .i64 copies] [] (.tuple [.lit (.pointer none), .int .i64 r]) [] := Zef h
theorem Ze8 {l : List api_Memory} {copies : Int} {r : ring_Recorder × Int} (h : ZaM l copies = some (.inr r)) :
    GSpec Tryz.prog gl0 13 [.sl 59 (List.map R59 l), .int .i64 copies] [] (.tuple [.ptr 0 1 0 0, .int .i64 r.2]) [some ⟨80, [[.own 1 r.1.bank.memories.length, .own 2 r.1.bank.spots.length, .int .i64 r.1.copies, .bool r.1.frozen, .bool r.1.stopped, .int .i64 r.1.last, .bool r.1.some_]]⟩, some ⟨59, List.map O59 r.1.bank.memories⟩, some ⟨83, List.map R83 r.1.bank.spots⟩] := Zef h
theorem Zez {r_ : ring_Recorder} {power : Int} {r : Int} (h : Xu r_ power = some r) :
 CSpec Tryz.prog gl0 43 [.rp [.sl 59 (List.map R59 r_.bank.memories), .sl 83 (List.map R83 r_.bank.spots), .int .i64 r_.copies, .bool r_.frozen, .bool r_.stopped, .int .i64 r_.last, .bool r_.some_] 0, .int .i64 power] (.int .i64 r) := by
 unfold Xu at h
 replace h := Z5 h
 refine So Tryz.func43 Y fun w0 A=>Tr<|Ra Y<|Za<|Zf<|Ze<|K2 0 1 Y<|Tr<|Rm Y<|R1 ZC Y<|Rq Y (Z6 (ov Y) ZkX)<|Rq Y (Zi (ov Y) tS4 Y)<|Ra Y<|Za<|K3 0 1 5 Y<|If h Y (fun h=>?_) fun h=>?_
 ·
  refine K0<|Tr<|Ra Y<|Za<|?_
  obtain rfl := rt h
  exact Zn (ZN Y (.one<|rb Y))
 ·
  refine K2 0 1 Y<|Tr<|Rm Y<|R1 ZC Y<|Rq Y (Z6 (ov Y) ZjA)<|Rq Y (Zi (ov Y) tS4 Y)<|Ra Y<|Za<|K2 1 10 Y<|If h Y (fun h=>?_) fun h=>?_
  ·
   refine K0<|Tr<|Ra Y<|Za<|?_
   obtain rfl := rt h
   exact Zn (ZN Y (.one<|rb Y))
  ·
   refine K1 1 Y<|Tr<|Rm Y<|bE h fun y h_y h=>Rq Y (Zr (Z3 h_y)<|.cons (ov Y) (.b Y)<|.cons (ov Y) (.b Y)<|.cons (ov Y) (.b Y) .nil)<|R1 XW Y<|Ra Y<|Za<|K1 15 Y<|If h Y (fun h=>?_) fun h=>?_
   ·
    refine K0<|Tr<|Ra Y<|Za<|?_
    obtain rfl := rt h
    exact Zn (ZN Y (.one<|rb Y))
   ·
    refine Zh<|K0<|Tr<|Ra Y<|Za<|?_
    obtain rfl := rt h
    exact Zn (ZN Y (.one<|rb Y))
theorem JB {w : Int} {r : Int} (h : XS w = some r) :
 CSpec Tryz.prog gl0 79 [.int .u16 w] (.int .i64 r) := by
 unfold XS at h
 replace h := Z5 h
 refine So Tryz.func79 Y fun w0 A=>Tr<|Ra Y<|Za<|Tr<|Rm Y<|R2 Jn Y<|Rq Y (Qe (ov Y) Zda tI3 Y)<|Ra Y<|Za<|?_
 obtain rfl := rt h
 exact Zn (ZN Y (.one<|rb Y))
theorem Zdp {f : Vector Int 64} {r : Int} (h : X1 f = some r) :
 CSpec Tryz.prog gl0 77 [.rp (List.map C44 f.toList) 0] (.int .i64 r) := by
 unfold X1 at h
 replace h := Z5 h
 refine So Tryz.func77 Y fun w0 A=>Tr<|Ra Y<|Za<|Zf<|Qm (cw := md0) (by kernel_rfl)<|D1 0 Zc Y<|D1 1 ZC Y<|bE h fun x h_x h=>Dq 2 Y (QS (ov Y) (ov Y) Zan h_x)<|Dq 3 Y (Zi (ov Y) Zbb<|Qx<|Xw (o := 0) (o' := ((Int.toNat 1) * 1)) (Zs arL)<|Xs h_x)<|bE h fun y h_y h=>Dq 4 Y (Zr (JB h_y)<|.cons (ov Y) (.b Y) .nil)<|D1 5 Zc Y<|D1 6 ZC Y<|bE h fun x2 h_x2 h=>Dq 7 Y (QS (ov Y) (ov Y) Zan h_x2)<|Dq 8 Y (Zi (ov Y) Zbb<|Qx<|Xw (o := 0) (o' := ((Int.toNat 2) * 1)) (Zs arL)<|Xs h_x2)<|bE h fun y2 h_y2 h=>Dq 9 Y (Zr (JB h_y2)<|.cons (ov Y) (.b Y) .nil)<|bE h fun q h_q h=>Dq 10 Y (ZdZ (ov Y) (ov Y) h_q)<|D2 11 Zeo Y<|D1 12 Qh Y<|Dd<|?_
 obtain rfl := rt h
 exact Zn (ZN Y (.one<|rb Y))
theorem Zfe {x : Int} {r : Int} (h : X6 x = some r) :
 CSpec Tryz.prog gl0 108 [.int .u16 x] (.int .i64 r) := by
 unfold X6 at h
 replace h := Z5 h
 refine So Tryz.func108 Y fun w0 A=>Tr<|Ra Y<|Za<|Zf<|Qm (cw := md0) (by kernel_rfl)<|D1 0 Zc Y<|bE h fun q h_q h=>Dq 1 Y (Zao (ov Y) (ov Y) h_q)<|bE h fun b h_b h=>Dq 2 Y (ZiS (ov Y) (ov Y) ZjZ h_b)<|D1 3 Zc Y<|D2 4 Jn Y<|bE h fun b2 h_b2 h=>Dq 5 Y (ZiS (ov Y) (ov Y) ZjZ h_b2)<|D2 6 ZI Y<|Dq 7 Y (Qe (ov Y) tI5 tI3 Y)<|D1 8 Qh Y<|Dd<|?_
 obtain rfl := rt h
 exact Zn (ZN Y (.one<|rb Y))
theorem ZdX {w : Int} {r : Bool} (h : ZbW w = some r) :
 CSpec Tryz.prog gl0 78 [.int .u16 w] (.bool r) := by
 unfold ZbW at h
 replace h := Z5 h
 refine So Tryz.func78 Y fun w0 A=>Tr<|Ra Y<|Za<|Tr<|Rm Y<|R2 Zik Y<|Rm Y<|Rq Y (.guarded ((decide (w ≤ 4095)) == true) Y Y Y Y fun h => Zc<|ov Y)<|bE h fun y h_y h=>Rq Y (.guarded ((decide (w ≤ 4095)) == true) Y Y Y Y fun h => Zr (Zfe<|gdT h_y h)<|.cons (ow Y h) (.b Y) .nil)<|bE h fun q h_q h=>Rq Y (.guarded ((decide (w ≤ 4095)) == true) Y Y Y Y fun h => Zaq (ow Y h) (ov Y)<|gdT h_q h)<|Rq Y (.guarded ((decide (w ≤ 4095)) == true) Y Y Y Y fun h => JG (ow Y h)<|ov Y)<|Rq Y (Zai (ov Y) fun hp=>ow Y<|gT hp)<|Ra Y<|Za<|?_
 obtain rfl := rt h
 exact Zn (ZN Y (.one<|rb Y))
theorem ZhV {f : Vector Int 64} {r : Int} (h : Zcb f = some r) :
 CSpec Tryz.prog gl0 80 [.rp (List.map C44 f.toList) 0] (.int .i64 r) := by
 unfold Zcb at h
 replace h := Z5 h
 refine So Tryz.func80 Y fun w0 A=>Tr<|Ra Y<|Za<|K1 0 Y<|Tr<|Ra Y<|Za<|I1 (fun n=>⟨[(3, .int .i64 n)], []⟩) h (fun h=>?_) fun n h=>?_
 ·
  refine Tr<|Rm Y<|Za<|Ze<|?_
  obtain ⟨r1, hl1, ho1⟩ := QP h
  refine L2 (fun n2 i=>⟨[(0, .rp (List.map C44 f.toList) 0), (3, .int .i64 n2), (5, .int .i64 i)], []⟩) hl1 (ES []) fun n1 n2 i h=>?_
  unfold ZbD at h
  refine Tr<|R2 ZJ Y<|Za<|Zf<|If h Y (fun h=>?_) fun h=>?_
  ·
   exact Zh<|Zf<|Ze<|K3 0 3 5 Y<|Tr<|Rm Y<|Ra Y<|Za<|K4 0 3 4 5 Y<|Zq<|Rm Y<|Rm Y<|Rm Y<|R2 ZI Y<|R1 ZC Y<|bE h fun x h_x h=>Rq Y (QS (ov Y) (ov Y) Zan h_x)<|Rq Y (Zi (ov Y) Zbb<|Qx<|Xw (o := 0) (o' := ((i64 (i + 1)).toNat * 1)) (Zs arL)<|Xs h_x)<|bE h fun y h_y h=>Rq Y (Zr (JB h_y)<|.cons (ov Y) (.b Y) .nil)<|R2 ZiM Y<|Ra Y<|Za<|K3 0 3 5 Y<|Zq<|R2 ZI Y<|Rm Y<|Za<|⟨_, h, ES []⟩
  ·
   refine ZD<|?_
   replace h := lx h ▸ ho1
   exact ⟨_, h, ES []⟩
 ·
  refine Tr<|Rm Y<|Ra Y<|Za<|?_
  obtain rfl := rt h
  exact Zn (ZN Y (.one<|rb Y))
theorem ZgA {f : Vector Int 64} {r : Int} (h : Zaz f = some r) :
 CSpec Tryz.prog gl0 81 [.rp (List.map C44 f.toList) 0] (.int .i64 r) := by
 unfold Zaz at h
 replace h := Z5 h
 refine So Tryz.func81 Y fun w0 A=>Tr<|Ra Y<|Za<|K1 0 Y<|Tr<|Ra Y<|Za<|I1 (fun n=>⟨[(3, .int .i64 n)], []⟩) h (fun h=>?_) fun n h=>?_
 ·
  refine Tr<|Rm Y<|Za<|Ze<|?_
  obtain ⟨r1, hl1, ho1⟩ := QP h
  refine L2 (fun n2 i=>⟨[(0, .rp (List.map C44 f.toList) 0), (3, .int .i64 n2), (7, .int .i64 i)], []⟩) hl1 (ES []) fun n1 n2 i h=>?_
  unfold Zae at h
  refine Tr<|R2 ZJ Y<|Za<|Zf<|If h Y (fun h=>?_) fun h=>?_
  ·
   refine Zh<|I1 (fun n3=>⟨[(0, .rp (List.map C44 f.toList) 0), (3, .int .i64 n3), (7, .int .i64 i)], []⟩) h (fun h=>?_) fun n3 h=>?_
   ·
    refine Ze<|K3 0 3 7 Y<|Tr<|Rm Y<|Ra Y<|Za<|K4 0 3 4 7 Y<|Tr<|Ra Y<|Za<|Ze<|?_
    obtain ⟨r2, hl2, ho2⟩ := QP h
    refine L2 (fun n4 k=>⟨[(0, .rp (List.map C44 f.toList) 0), (3, .int .i64 n4), (4, .int .i64 i), (5, .int .i64 k), (7, .int .i64 i)], []⟩) hl2 (ES []) fun n2 n4 k h=>?_
    unfold J4 at h
    refine Zf<|Tr<|Rm Y<|R2 Zh1 Y<|Za<|K6 0 3 4 5 7 11 Y<|If h Y (fun h=>?_) fun h=>?_
    ·
     refine Zh<|Zf<|Ze<|K5 0 3 4 5 7 Y<|Tr<|Rm Y<|R2 Jn Y<|R2 Jf Y<|Ra Y<|Za<|K6 0 3 4 5 6 7 Y<|Tr<|Rm Y<|bE h fun q h_q h=>Rq Y (ZdZ (ov Y) (ov Y) h_q)<|R2 Jn Y<|Ra Y<|Za<|K6 0 3 4 5 6 7 Y<|Tr<|Rm Y<|Rm Y<|Rm Y<|R1 ZC Y<|bE h fun x h_x h=>Rq Y (QS (ov Y) (ov Y) Zan h_x)<|Rq Y (Zi (ov Y) Zbb<|Qx<|Xw (o := 0) (o' := (i.toNat * 1)) (Zs arL)<|Xs h_x)<|Rm Y<|bE h fun q2 h_q2 h=>Rq Y (Zao (ov Y) (ov Y) h_q2)<|R2 Jn Y<|R2 JG Y<|Rq Y (ZhT .neq (by simp) (ov Y) (ov Y) tB4)<|Za<|K6 0 3 4 5 7 30 Y<|If h Y (fun h=>?_) fun h=>?_
     ·
      exact K5 0 3 4 5 7 Y<|Zq<|Rm Y<|R2 ZiM Y<|Ra Y<|Za<|K5 0 3 4 5 7 Y<|Zq<|Rm Y<|R2 Zac Y<|Ra Y<|Za<|⟨_, h, ES []⟩
     ·
      exact Zh<|K5 0 3 4 5 7 Y<|Zq<|Rm Y<|R2 Zac Y<|Ra Y<|Za<|⟨_, h, ES []⟩
    ·
     refine ZD<|?_
     replace h := lx h ▸ ho2
     exact ⟨_, h, ES []⟩
   ·
    exact Zq<|R2 ZI Y<|Rm Y<|Za<|⟨_, h, ES []⟩
  ·
   refine ZD<|?_
   replace h := lx h ▸ ho1
   exact ⟨_, h, ES []⟩
 ·
  refine Tr<|Rm Y<|Ra Y<|Za<|?_
  obtain rfl := rt h
  exact Zn (ZN Y (.one<|rb Y))
theorem ZeK {f : Vector Int 64} {r : (List api_Flaw)} (h : ZaZ f = some r) :
 CSpec Tryz.prog gl0 45 [.agg (List.map C44 f.toList)] (.sl 133 (List.map R133 r)) := by
 unfold ZaZ at h
 replace h := Z5 h
 refine So Tryz.func45 Y fun w0 A=>Tr<|Rq Y (Zdu (cva<|ov Y) arL tZ_46<|arD fun _ => Y)<|Ra Y<|Za<|K1 1 Y<|Tr<|Ra Y<|Za<|I1 (fun out=>⟨[(1, .rp (List.map C44 f.toList) 0), (3, .own 0 out.length)], [some ⟨133, List.map R133 out⟩]⟩) h (fun h=>?_) fun out h=>?_
 ·
  refine Tr<|Rq Y (Xp (ov Y) X8 (QL<|Zs arL) arL)<|Rm Y<|Za<|Ze<|?_
  obtain ⟨r1, hl1, ho1⟩ := QP h
  refine L2 (fun out2 i=>⟨[(1, .rp (List.map C44 f.toList) 0), (3, .own 0 out2.length), (7, .agg (List.map C44 f.toList)), (8, .int .i64 i)], [some ⟨133, List.map R133 out2⟩]⟩) hl1 (ES [none]) fun n1 out2 i h=>?_
  unfold Za4 at h
  refine Tr<|R2 ZJ Y<|Za<|Zf<|If h Y (fun h=>?_) fun h=>?_
  ·
   refine Zh<|Zf<|Ze<|K4 1 3 7 8 Y<|Tr<|Rm Y<|bE h fun x h_x h=>Rq Y (Ziu (ov Y) (ov Y) Zan Zbb h_x)<|Ra Y<|Ra Y<|Za<|K6 1 3 4 5 7 8 Y<|Tr<|Rm Y<|R2 JR Y<|Za<|K6 1 3 4 7 8 13 Y<|If h Y (fun h=>?_) fun h=>?_
   ·
    exact K5 1 3 4 7 8 Y<|Zq<|Rm Y<|Rm Y<|Rq Y (XI (ys := [_, _]) Zhv ZhO ZiW (.cons (cvs (ov Y)<|Zj Y)<|.cons (cvs (ov Y)<|Zj Y) .nil) Y)<|R_q (.sl 133<|List.map R133 ([(api_Flaw.mk i 5)] : List api_Flaw)) Y (XX ZgF (.cons (cva<|ov Y) Y (pwD Y) .nil) Y Y)<|bE h fun l h_l h=>Rx Y (Xg (ov Y) (Qt (ov Y) tZ_133) ZgF Y Y Y (fun _=>Zb Y) Y h_l)<|Ra Y<|Za<|K4 1 3 7 8 Y<|Zq<|R2 ZI Y<|Rm Y<|Za<|⟨_, h, ES [some 0]⟩
   ·
    exact Zh<|K4 1 3 7 8 Y<|Zq<|R2 ZI Y<|Rm Y<|Za<|⟨_, h, ES [some 0]⟩
  ·
   refine ZD<|?_
   replace h := lx h ▸ ho1
   exact ⟨_, h, ES [some 0]⟩
 ·
  refine Zf<|Tr<|Rm Y<|Rq Y (Zd2 (ov Y) Y Y ZgF)<|R2 JR Y<|Za<|K3 1 3 22 Y<|If h Y (fun h=>?_) fun h=>?_
  ·
   refine K1 3 Y<|Tr<|Rm Y<|Ra Y<|Za<|?_
   obtain rfl := rt h
   exact Zn (ZN Y (.one<|.tmp Y<|View.ownM Y Y D133))
  ·
   refine Zh<|I1 (fun out3=>⟨[(1, .rp (List.map C44 f.toList) 0), (3, .own 0 out3.length)], [some ⟨133, List.map R133 out3⟩]⟩) h (fun h=>?_) fun out3 h=>?_
   ·
    refine Zf<|K2 1 3 Y<|Qm (cw := md0) (by kernel_rfl)<|bE h fun x2 h_x2 h=>Dq 0 Y (QS (ov Y) (ov Y) Zan h_x2)<|Dq 1 Y (Zi (ov Y) Zbb<|Qx<|Xw (o := 0) (o' := ((Int.toNat 0) * 1)) (Zs arL)<|Xs h_x2)<|bE h fun y h_y h=>Dq 2 Y (Zr (Zdp h_y)<|.cons (ov Y) (.b Y) .nil)<|bE h fun q h_q h=>Dq 3 Y (Zaq (ov Y) (ov Y) h_q)<|bE h fun x3 h_x3 h=>Dq 4 Y (QS (og (v := gv_frame_syncs) (k := .u16) (f := C44) (by simp [gl0]) fun _=>Y) (ov Y) Zmd h_x3)<|Dq 5 Y (Zi (ov Y) Zbb<|Qx<|Xw (o := 0) (o' := (q.toNat * 1)) (Zs arL)<|Xs h_x3)<|D2 6 Jf Y<|Dd<|K3 1 3 30 Y<|If h Y (fun h=>?_) fun h=>?_
    ·
     exact K2 1 3 Y<|Zq<|Rm Y<|Rq Y (XI (ys := [_, _]) Zhv ZhO ZiW (.cons (cvs (ov Y)<|Zj Y)<|.cons (cvs (ov Y)<|Zj Y) .nil) Y)<|R_q (.sl 133<|List.map R133 ([(api_Flaw.mk 0 1)] : List api_Flaw)) Y (XX ZgF (.cons (cva<|ov Y) Y (pwD Y) .nil) Y Y)<|bE h fun l2 h_l2 h=>Rx Y (Xg (ov Y) (Qt (ov Y) tZ_133) ZgF Y Y Y (fun _=>Zb Y) Y h_l2)<|Ra Y<|Za<|⟨_, h, ES [some 0]⟩
    ·
     exact Zh<|⟨_, h, ES [some 0]⟩
   ·
    refine I1 (fun out4=>⟨[(1, .rp (List.map C44 f.toList) 0), (3, .own 0 out4.length)], [some ⟨133, List.map R133 out4⟩]⟩) h (fun h=>?_) fun out4 h=>?_
    ·
     refine Tr<|Ra Y<|Za<|Ze<|?_
     obtain ⟨r2, hl2, ho2⟩ := QP h
     refine L2 (fun out5 i2=>⟨[(1, .rp (List.map C44 f.toList) 0), (3, .own 0 out5.length), (6, .int .i64 i2)], [some ⟨133, List.map R133 out5⟩]⟩) hl2 (ES [some 0]) fun n2 out5 i2 h=>?_
     unfold Zba at h
     refine Zf<|Tr<|Rm Y<|R2 ZJ Y<|Za<|K4 1 3 6 36 Y<|If h Y (fun h=>?_) fun h=>?_
     ·
      refine Zh<|Zf<|Ze<|K3 1 3 6 Y<|Tr<|Rm Y<|bE h fun x4 h_x4 h=>Rq Y (QS (ov Y) (ov Y) Zan h_x4)<|Rq Y (Zi (ov Y) Zbb<|Qx<|Xw (o := 0) (o' := (i2.toNat * 1)) (Zs arL)<|Xs h_x4)<|bE h fun y2 h_y2 h=>Rq Y (Zr (ZdX h_y2)<|.cons (ov Y) (.b Y) .nil)<|R1 XW Y<|Za<|K4 1 3 6 43 Y<|If h Y (fun h=>?_) fun h=>?_
      ·
       exact K3 1 3 6 Y<|Zq<|Rm Y<|Rm Y<|Rq Y (XI (ys := [_, _]) Zhv ZhO ZiW (.cons (cvs (ov Y)<|Zj Y)<|.cons (cvs (ov Y)<|Zj Y) .nil) Y)<|R_q (.sl 133<|List.map R133 ([(api_Flaw.mk i2 2)] : List api_Flaw)) Y (XX ZgF (.cons (cva<|ov Y) Y (pwD Y) .nil) Y Y)<|bE h fun l3 h_l3 h=>Rx Y (Xg (ov Y) (Qt (ov Y) tZ_133) ZgF Y Y Y (fun _=>Zb Y) Y h_l3)<|Ra Y<|Za<|K3 1 3 6 Y<|Zq<|Rm Y<|R2 ZI Y<|Ra Y<|Za<|⟨_, h, ES [some 0]⟩
      ·
       exact Zh<|K3 1 3 6 Y<|Zq<|Rm Y<|R2 ZI Y<|Ra Y<|Za<|⟨_, h, ES [some 0]⟩
     ·
      refine ZD<|?_
      replace h := lx h ▸ ho2
      exact ⟨_, h, ES [some 0]⟩
    ·
     refine I1 (fun out6=>⟨[(1, .rp (List.map C44 f.toList) 0), (3, .own 0 out6.length)], [some ⟨133, List.map R133 out6⟩]⟩) h (fun h=>?_) fun out6 h=>?_
     ·
      refine Tr<|bE h fun x5 h_x5 h=>Rq Y (QS (ov Y) (ov Y) Zan h_x5)<|Rq Y (Zi (ov Y) Zbb<|Qx<|Xw (o := 0) (o' := ((Int.toNat 61) * 1)) (Zs arL)<|Xs h_x5)<|bE h fun y3 h_y3 h=>Rq Y (Zr (JB h_y3)<|.cons (ov Y) (.b Y) .nil)<|bE h fun y4 h_y4 h=>Rq Y (Zr (ZhV h_y4)<|.cons (ov Y) (.b Y) .nil)<|R2 Jf Y<|Za<|K3 1 3 53 Y<|If h Y (fun h=>?_) fun h=>?_
      ·
       exact K2 1 3 Y<|Zq<|Rm Y<|Rq Y (XI (ys := [_, _]) Zhv ZhO ZiW (.cons (cvs (ov Y)<|Zj Y)<|.cons (cvs (ov Y)<|Zj Y) .nil) Y)<|R_q (.sl 133<|List.map R133 ([(api_Flaw.mk 61 3)] : List api_Flaw)) Y (XX ZgF (.cons (cva<|ov Y) Y (pwD Y) .nil) Y Y)<|bE h fun l4 h_l4 h=>Rx Y (Xg (ov Y) (Qt (ov Y) tZ_133) ZgF Y Y Y (fun _=>Zb Y) Y h_l4)<|Ra Y<|Za<|⟨_, h, ES [some 0]⟩
      ·
       exact Zh<|⟨_, h, ES [some 0]⟩
     ·
      refine Zf<|Zf<|Qm (cw := md0) (by kernel_rfl)<|bE h fun x6 h_x6 h=>Dq 0 Y (QS (ov Y) (ov Y) Zan h_x6)<|Dq 1 Y (Zi (ov Y) Zbb<|Qx<|Xw (o := 0) (o' := ((Int.toNat 62) * 1)) (Zs arL)<|Xs h_x6)<|bE h fun y5 h_y5 h=>Dq 2 Y (Zr (JB h_y5)<|.cons (ov Y) (.b Y) .nil)<|bE h fun q2 h_q2 h=>Dq 3 Y (ZdZ (ov Y) (ov Y) h_q2)<|bE h fun x7 h_x7 h=>Dq 4 Y (QS (ov Y) (ov Y) Zan h_x7)<|Dq 5 Y (Zi (ov Y) Zbb<|Qx<|Xw (o := 0) (o' := ((Int.toNat 63) * 1)) (Zs arL)<|Xs h_x7)<|bE h fun y6 h_y6 h=>Dq 6 Y (Zr (JB h_y6)<|.cons (ov Y) (.b Y) .nil)<|D2 7 Zeo Y<|bE h fun y7 h_y7 h=>Dq 8 Y (Zr (ZgA h_y7)<|.cons (ov Y) (.b Y) .nil)<|D2 9 Jf Y<|Dd<|K2 3 67 Y<|If h Y (fun h=>?_) fun h=>?_
      ·
       refine K1 3 Y<|Zq<|Rm Y<|Rq Y (XI (ys := [_, _]) Zhv ZhO ZiW (.cons (cvs (ov Y)<|Zj Y)<|.cons (cvs (ov Y)<|Zj Y) .nil) Y)<|R_q (.sl 133<|List.map R133 ([(api_Flaw.mk 62 4)] : List api_Flaw)) Y (XX ZgF (.cons (cva<|ov Y) Y (pwD Y) .nil) Y Y)<|bE h fun l5 h_l5 h=>Rx Y (Xg (ov Y) (Qt (ov Y) tZ_133) ZgF Y Y Y (fun _=>Zb Y) Y h_l5)<|Ra Y<|Za<|K1 3 Y<|Tr<|Rm Y<|Ra Y<|Za<|?_
       obtain rfl := rt h
       exact Zn (ZN Y (.one<|.tmp Y<|View.ownM Y Y D133))
      ·
       refine Zh<|K1 3 Y<|Tr<|Rm Y<|Ra Y<|Za<|?_
       obtain rfl := rt h
       exact Zn (ZN Y (.one<|.tmp Y<|View.ownM Y Y D133))
theorem Zek {f : Vector Int 64} {r : Int × Bool} (h : JZ f = some r) :
 CSpec Tryz.prog gl0 46 [.agg (List.map C44 f.toList)] (.tuple [.int .i64 r.1, .bool r.2]) := by
 unfold JZ at h
 replace h := Z5 h
 refine So Tryz.func46 Y fun w0 A=>Tr<|Rq Y (Zdu (cva<|ov Y) arL tZ_46<|arD fun _ => Y)<|Ra Y<|Ra Y<|Za<|Zf<|K1 1 Y<|Tr<|bE h fun x h_x h=>Rq Y (QS (ov Y) (ov Y) Zan h_x)<|Rq Y (Zi (ov Y) Zbb<|Qx<|Xw (o := 0) (o' := ((Int.toNat 1) * 1)) (Zs arL)<|Xs h_x)<|bE h fun y h_y h=>Rq Y (Zr (ZdX h_y)<|.cons (ov Y) (.b Y) .nil)<|R1 XW Y<|Rm Y<|bE h fun x2 h_x2 h=>Rq Y (.guarded ((!y) == false) Y Y Y Y fun h => QS (ov Y) (ov Y) Zan<|gdT h_x2 h)<|Rq Y (.guarded ((!y) == false) Y Y Y Y fun h => Zi (ow Y h) Zbb<|Qx<|Xw (o := 0) (o' := ((Int.toNat 2) * 1)) (Zs arL)<|Xs<|gdT h_x2 h)<|bE h fun y2 h_y2 h=>Rq Y (.guarded ((!y) == false) Y Y Y Y fun h => Zr (ZdX<|gdT h_y2 h)<|.cons (ow Y h) (.b Y) .nil)<|Rq Y (.guarded ((!y) == false) Y Y Y Y fun h => XW<|ow Y h)<|Rq Y (Zdw (ov Y) fun hp=>ow Y<|gF hp)<|Za<|K2 1 13 Y<|If h Y (fun h=>?_) fun h=>?_
 ·
  refine K0<|Tr<|Ra Y<|Ra Y<|Za<|?_
  obtain rfl := rt h
  exact Zn (ZN Y (.two (rb Y)<|rb Y))
 ·
  refine Zh<|K1 1 Y<|Tr<|bE h fun y3 h_y3 h=>Rq Y (Zr (Zdp h_y3)<|.cons (ov Y) (.b Y) .nil)<|Ra Y<|Ra Y<|Za<|?_
  obtain rfl := rt h
  exact Zn (ZN Y (.two (rb Y)<|rb Y))
theorem Zhh {number : Int} {memories : Int} {copies : Int} {r : (List Int)} (h : Zby number memories copies = some r) :
 CSpec Tryz.prog gl0 47 [.int .i64 number, .int .i64 memories, .int .i64 copies] (.sl 3 (List.map R3 r)) := by
 unfold Zby at h
 replace h := Z5 h
 refine So Tryz.func47 Y fun w0 A=>Tr<|Ra Y<|Za<|K3 0 1 2 Y<|Tr<|Ra Y<|Za<|I1 (fun out=>⟨[(7, .own 0 out.length)], [some ⟨3, List.map R3 out⟩]⟩) h (fun h=>?_) fun out h=>?_
 ·
  refine Tr<|Rm Y<|Rm Y<|Za<|Ze<|?_
  obtain ⟨r1, hl1, ho1⟩ := QP h
  refine L2 (fun out2 i=>⟨[(0, .int .i64 number), (1, .int .i64 memories), (7, .own 0 out2.length), (9, .int .i64 copies), (10, .int .i64 i)], [some ⟨3, List.map R3 out2⟩]⟩) hl1 (ES [none]) fun n1 out2 i h=>?_
  unfold ZaE at h
  refine Tr<|R2 ZJ Y<|Za<|Zf<|If h Y (fun h=>?_) fun h=>?_
  ·
   exact Zh<|Zf<|Ze<|K5 0 1 7 9 10 Y<|Tr<|Rm Y<|Ra Y<|Za<|K6 0 1 7 8 9 10 Y<|Zq<|Rm Y<|Rm Y<|Rm Y<|R2 ZI Y<|Rm Y<|bE h fun q h_q h=>Rq Y (Zaq (ov Y) (ov Y) h_q)<|R_q (.sl 3<|List.map R3 ([q] : List Int)) Y (XX QK (.cons (cvs (ov Y)<|Zj Y) Y (.cons (.b Y) .nil) .nil) Y Y)<|bE h fun l h_l h=>Rx Y (Xg (ov Y) (Qt (ov Y) tZ_3) QK Y Y Y (fun _=>Zb Y) Y h_l)<|Ra Y<|Za<|K5 0 1 7 9 10 Y<|Zq<|R2 ZI Y<|Rm Y<|Za<|⟨_, h, ES [some 0]⟩
  ·
   refine ZD<|?_
   replace h := lx h ▸ ho1
   exact ⟨_, h, ES [some 0]⟩
 ·
  refine Tr<|Rm Y<|Ra Y<|Za<|?_
  obtain rfl := rt h
  exact Zn (ZN Y (.one<|.tmp Y<|View.ownM Y Y D3))
theorem Zap {b : ring_bank} {k : Int} {r : Bool} (h : Q1 b k = some r) :
 CSpec Tryz.prog gl0 82 [.rp [.sl 59 (List.map R59 b.memories), .sl 83 (List.map R83 b.spots)] 0, .int .i64 k] (.bool r) := by
 unfold Q1 at h
 replace h := Z5 h
 refine So Tryz.func82 Y fun w0 A=>Tr<|Ra Y<|Za<|Zf<|Qm (cw := md0) (by kernel_rfl)<|D1 0 Zc Y<|D1 1 ZC Y<|Dq 2 Y (Z6 (ov Y) ZfD)<|Dq 3 Y (Zi (ov Y) Zju Y)<|D1 4 Zc Y<|bE h fun x h_x h=>Dq 5 Y (Qo (ov Y) (ov Y) ZjE h_x)<|Dq 6 Y (Z6 (ov Y) ZgJ)<|Dq 7 Y (Zi (ov Y) tS3 Y)<|D2 8 ZJ Y<|D1 9 Zc Y<|Dq 10 Y (.guarded ((decide (x.sector < 0)) == false) Y Y Y Y fun h => Zc<|ov Y)<|Dq 11 Y (.guarded ((decide (x.sector < 0)) == false) Y Y Y Y fun h => ZC<|ow Y h)<|Dq 12 Y (.guarded ((decide (x.sector < 0)) == false) Y Y Y Y fun h => Z6 (ow Y h) ZfD)<|Dq 13 Y (.guarded ((decide (x.sector < 0)) == false) Y Y Y Y fun h => Zi (ow Y h) Zju Y)<|Dq 14 Y (.guarded ((decide (x.sector < 0)) == false) Y Y Y Y fun h => Zc<|ov Y)<|bE h fun x2 h_x2 h=>Dq 15 Y (.guarded ((decide (x.sector < 0)) == false) Y Y Y Y fun h => Qo (ow Y h) (ow Y h) ZjE<|gdT h_x2 h)<|Dq 16 Y (.guarded ((decide (x.sector < 0)) == false) Y Y Y Y fun h => Z6 (ow Y h) Zh0)<|Dq 17 Y (.guarded ((decide (x.sector < 0)) == false) Y Y Y Y fun h => Zi (ow Y h) tS3 Y)<|Dq 18 Y (.guarded ((decide (x.sector < 0)) == false) Y Y Y Y fun h => Zc<|ov Y)<|Dq 19 Y (.guarded ((decide (x.sector < 0)) == false) Y Y Y Y fun h => ZC<|ow Y h)<|Dq 20 Y (.guarded ((decide (x.sector < 0)) == false) Y Y Y Y fun h => Z6 (ow Y h) ZdW)<|Dq 21 Y (.guarded ((decide (x.sector < 0)) == false) Y Y Y Y fun h => Zi (ow Y h) ZiL Y)<|Dq 22 Y (.guarded ((decide (x.sector < 0)) == false) Y Y Y Y fun h => Zc<|ov Y)<|bE h fun x3 h_x3 h=>Dq 23 Y (.guarded ((decide (x.sector < 0)) == false) Y Y Y Y fun h => Qo (ow Y h) (ow Y h) ZcU<|gdT h_x3 h)<|Dq 24 Y (.guarded ((decide (x.sector < 0)) == false) Y Y Y Y fun h => Z6 (ow Y h) Zh2)<|Dq 25 Y (.guarded ((decide (x.sector < 0)) == false) Y Y Y Y fun h => Zi (ow Y h) tS3 Y)<|Dq 26 Y (.guarded ((decide (x.sector < 0)) == false) Y Y Y Y fun h => JG (ow Y h)<|ow Y h)<|Dq 27 Y (Zdw (ov Y) fun hp=>ow Y<|gF hp)<|D1 28 Qh Y<|Dd<|?_
 obtain rfl := rt h
 exact Zn (ZN Y (.one<|rb Y))
theorem Zbn {b : ring_bank} {k : Int} {r : Int} (h : Xr b k = some r) :
 CSpec Tryz.prog gl0 83 [.rp [.sl 59 (List.map R59 b.memories), .sl 83 (List.map R83 b.spots)] 0, .int .i64 k] (.int .i64 r) := by
 unfold Xr at h
 replace h := Z5 h
 refine So Tryz.func83 Y fun w0 A=>Tr<|Ra Y<|Za<|K2 0 1 Y<|Tr<|Rm Y<|R1 ZC Y<|Rq Y (Z6 (ov Y) ZdW)<|Rq Y (Zi (ov Y) ZiL Y)<|Rm Y<|bE h fun x h_x h=>Rq Y (Qo (ov Y) (ov Y) ZcU h_x)<|Rq Y (Xp (ov Y) Jt Y Y)<|Rx Y (Qg (row := [_, _, _, _, _]) 0 Y Zdx Y tZ_59)<|Rx Y (Zm (ov Y) (ov Y) (Zy Jt Y) Y Y Y (Nat.le_of_ble_eq_true Y) (Zb Y) Y)<|Za<|K3 0 1 5 Y<|Tr<|Rq Y (Zl (ov Y) Y Y ZH)<|Rq Y (Zt (ov Y) Y Y Y Ql Y)<|Rl tZ_22 Z8 Y<|Ra Y<|Za<|J0 (fun j => (.inr j)) ⟨[], []⟩ h (fun h=>?_) fun h=>?_
 ·
  refine K4 0 1 5 6 Y<|Tr<|Rm Y<|Rm Y<|Za<|Ze<|?_
  obtain ⟨r1, hl1, ho1⟩ := QP h
  refine L1 (fun i=>⟨[(0, .rp [.sl 59 (List.map R59 b.memories), .sl 83 (List.map R83 b.spots)] 0), (1, .int .i64 k), (5, .ptr 0 1 0 0), (6, .int .i64 (x.Sectors.length : Int)), (19, .int .i64 (x.Sectors.length : Int)), (20, .int .i64 i)], [some ⟨59, [[.int .i64 x.Slots, .int .i64 x.Limit, .sl 22 (List.map R22 x.Sectors), .sl 3 (List.map R3 x.Wear), .sl 4 (List.map R4 x.Bad)]]⟩]⟩) hl1 (ES [some 0]) fun n1 i h=>?_
  unfold JJ at h
  refine Tr<|R2 ZJ Y<|Za<|Zf<|If h Y (fun h=>?_) fun h=>?_
  ·
   refine Zh<|Zf<|Ze<|K6 0 1 5 6 19 20 Y<|Tr<|Rm Y<|Ra Y<|Za<|K7 0 1 5 6 7 19 20 Y<|Tr<|Rm Y<|R1 ZC Y<|Rq Y (Z6 (ov Y) ZfD)<|Rq Y (Zi (ov Y) Zju Y)<|Rm Y<|bE h fun x2 h_x2 h=>Rq Y (Qo (ov Y) (ov Y) ZjE h_x2)<|Rq Y (Z6 (ov Y) ZgJ)<|Rq Y (Zi (ov Y) tS3 Y)<|R2 ZI Y<|Rm Y<|R2 ZI Y<|Rm Y<|bE h fun q h_q h=>Rq Y (Zaq (ov Y) (ov Y) h_q)<|Ra Y<|Za<|Zf<|K7 0 1 5 6 8 19 20 Y<|Qm (cw := md0) (by kernel_rfl)<|Dq 0 Y (Zl (ov Y) Y Y ZgW)<|Dq 1 Y (Zt (ov Y) Y Y Y Zjv Y)<|D1 2 Zc Y<|bE h fun x3 h_x3 h=>Dq 3 Y (Qo (ov Y) (ov Y) Zia h_x3)<|Dq 4 Y (Zi (ov Y) tS4 Y)<|D1 5 XW Y<|D1 6 Zc Y<|Dq 7 Y (.guarded ((!x3) == true) Y Y Y Y fun h => Zl (ov Y) Y Y Zfy)<|Dq 8 Y (.guarded ((!x3) == true) Y Y Y Y fun h => Zt (ow Y h) Y Y Y ZjI Y)<|Dq 9 Y (.guarded ((!x3) == true) Y Y Y Y fun h => Zc<|ov Y)<|bE h fun x4 h_x4 h=>Dq 10 Y (.guarded ((!x3) == true) Y Y Y Y fun h => Qo (ow Y h) (ow Y h) QK<|gdT h_x4 h)<|Dq 11 Y (.guarded ((!x3) == true) Y Y Y Y fun h => Zi (ow Y h) tS3 Y)<|Dq 12 Y (.guarded ((!x3) == true) Y Y Y Y fun h => Zl (ov Y) Y Y Zjt)<|Dq 13 Y (.guarded ((!x3) == true) Y Y Y Y fun h => Zt (ow Y h) Y Y Y tS3 Y)<|Dq 14 Y (.guarded ((!x3) == true) Y Y Y Y fun h => ZJ (ow Y h)<|ow Y h)<|Dq 15 Y (Zai (ov Y) fun hp=>ow Y<|gT hp)<|Dd<|K8 0 1 5 6 8 19 20 51 Y<|If h Y (fun h=>?_) fun h=>?_
   ·
    refine K1 8 Y<|Tr<|Rm Y<|Ra Y<|Za<|?_
    replace h := lx h ▸ ho1
    obtain rfl := rt h
    exact Zn (ZN Y (.one<|rb Y))
   ·
    exact Zh<|K6 0 1 5 6 19 20 Y<|Zq<|R2 ZI Y<|Rm Y<|Za<|⟨_, h, ES [some 0]⟩
  ·
   refine ZD<|?_
   replace h := lx h ▸ ho1
   exact ⟨(), h, ES []⟩
 ·
  replace h := elr h
  replace h := t0i h
  refine Tr<|Ra Y<|Za<|?_
  obtain rfl := rt h
  exact Zn (ZN Y (.one<|rb Y))
theorem ZbK {b : ring_bank} {k : Int} {sector : Int} {r : Int} (h : QZ b k sector = some r) :
 CSpec Tryz.prog gl0 84 [.rp [.sl 59 (List.map R59 b.memories), .sl 83 (List.map R83 b.spots)] 0, .int .i64 k, .int .i64 sector] (.int .i64 r) := by
 unfold QZ at h
 replace h := Z5 h
 refine So Tryz.func84 Y fun w0 A=>Tr<|Ra Y<|Za<|K3 0 1 2 Y<|Tr<|Ra Y<|Za<|I1 (fun most=>⟨[(7, .int .i64 most)], []⟩) h (fun h=>?_) fun most h=>?_
 ·
  refine Tr<|Rm Y<|R1 ZC Y<|Rq Y (Z6 (ov Y) ZdW)<|Rq Y (Zi (ov Y) ZiL Y)<|Rm Y<|bE h fun x h_x h=>Rq Y (Qo (ov Y) (ov Y) ZcU h_x)<|Rq Y (Z6 (ov Y) ZH)<|Rq Y (Zi (ov Y) Ql Y)<|Rl tZ_22 Z8 Y<|Rm Y<|Za<|Ze<|?_
  obtain ⟨r1, hl1, ho1⟩ := QP h
  refine L2 (fun most2 i=>⟨[(2, .int .i64 sector), (7, .int .i64 most2), (20, .sl 22 (List.map R22 x.Sectors)), (21, .int .i64 (x.Sectors.length : Int)), (22, .int .i64 i)], []⟩) hl1 (ES []) fun n1 most2 i h=>?_
  unfold XB at h
  refine Tr<|R2 ZJ Y<|Za<|Zf<|If h Y (fun h=>?_) fun h=>?_
  ·
   refine Zh<|Zf<|Ze<|K5 2 7 20 21 22 Y<|Tr<|Rm Y<|bE h fun x2 h_x2 h=>Rq Y (Qo (ov Y) (ov Y) Z8 h_x2)<|Rq Y (Zi (ov Y) Zhi Y)<|Ra Y<|Ra Y<|Za<|K7 2 7 8 9 20 21 22 Y<|Tr<|Rm Y<|bE h fun y h_y h=>Rq Y (Zr (Zbu h_y)<|.cons (ov Y) (.b Y) .nil)<|Rm Y<|Rq Y (Zg (ov Y) Y)<|Rq Y (Zg (ov Y) Y)<|Rq Y (Zg (ov Y) Y)<|Ra Y<|Ra Y<|Ra Y<|Za<|K8 2 7 8 10 12 20 21 22 Y<|Tr<|Rm Y<|Rm Y<|Rq Y (.guarded (y.2.2 == true) Y Y Y Y fun h => Zc<|ov Y)<|Rq Y (.guarded (y.2.2 == true) Y Y Y Y fun h => Zc<|ov Y)<|Rq Y (.guarded (y.2.2 == true) Y Y Y Y fun h => Jf (ow Y h)<|ow Y h)<|Rq Y (Zai (ov Y) fun hp=>ow Y<|gT hp)<|Za<|K7 2 7 10 20 21 22 38 Y<|If h Y (fun h=>?_) fun h=>?_
   ·
    exact K6 2 7 10 20 21 22 Y<|Zq<|Rm Y<|Rm Y<|Rq Y (ZiX (ov Y) (ov Y) Y)<|Ra Y<|Za<|K5 2 7 20 21 22 Y<|Zq<|R2 ZI Y<|Rm Y<|Za<|⟨_, h, ES []⟩
   ·
    exact Zh<|K5 2 7 20 21 22 Y<|Zq<|R2 ZI Y<|Rm Y<|Za<|⟨_, h, ES []⟩
  ·
   refine ZD<|?_
   replace h := lx h ▸ ho1
   exact ⟨_, h, ES []⟩
 ·
  refine Tr<|Rm Y<|R2 ZI Y<|Ra Y<|Za<|?_
  obtain rfl := rt h
  exact Zn (ZN Y (.one<|rb Y))
theorem ZfF {b : ring_bank} {l : List Int} {r : Int} (h : Jw b l = some r) :
 CSpec Tryz.prog gl0 48 [.rp [.sl 59 (List.map R59 b.memories), .sl 83 (List.map R83 b.spots)] 0, .sl 3 (List.map R3 l)] (.int .i64 r) := by
 unfold Jw at h
 replace h := Z5 h
 refine So Tryz.func48 Y fun w0 A=>Tr<|Ra Y<|Za<|J0 (fun j => (.inr j)) ⟨[(0, .rp [.sl 59 (List.map R59 b.memories), .sl 83 (List.map R83 b.spots)] 0), (1, .sl 3 (List.map R3 l))], []⟩ h (fun h=>?_) fun h=>?_
 ·
  refine K2 0 1 Y<|Tr<|Rm Y<|Rl tZ_3 QK Y<|Rm Y<|Za<|Ze<|?_
  obtain ⟨r1, hl1, ho1⟩ := QP h
  refine L1 (fun i=>⟨[(0, .rp [.sl 59 (List.map R59 b.memories), .sl 83 (List.map R83 b.spots)] 0), (1, .sl 3 (List.map R3 l)), (9, .sl 3 (List.map R3 l)), (10, .int .i64 (l.length : Int)), (11, .int .i64 i)], []⟩) hl1 (ES []) fun n1 i h=>?_
  unfold Jp at h
  refine Tr<|R2 ZJ Y<|Za<|Zf<|If h Y (fun h=>?_) fun h=>?_
  ·
   refine Zh<|Zf<|Ze<|K5 0 1 9 10 11 Y<|Tr<|bE h fun x h_x h=>Rq Y (Qo (ov Y) (ov Y) QK h_x)<|Rq Y (Zi (ov Y) tS3 Y)<|Ra Y<|Za<|K6 0 1 6 9 10 11 Y<|Tr<|Rm Y<|Rm Y<|bE h fun y h_y h=>Rq Y (Zr (Zap h_y)<|.cons (ov Y) (.b Y)<|.cons (ov Y) (.b Y) .nil)<|Rm Y<|Rq Y (.guarded (y == true) Y Y Y Y fun h => Zc<|ov Y)<|Rq Y (.guarded (y == true) Y Y Y Y fun h => Zc<|ov Y)<|bE h fun y2 h_y2 h=>Rq Y (.guarded (y == true) Y Y Y Y fun h => Zr (Zbn<|gdT h_y2 h)<|.cons (ow Y h) (.b Y)<|.cons (ow Y h) (.b Y) .nil)<|Rq Y (.guarded (y == true) Y Y Y Y fun h => ZJ (ow Y h)<|ov Y)<|Rq Y (Zai (ov Y) fun hp=>ow Y<|gT hp)<|Za<|K6 0 1 9 10 11 23 Y<|If h Y (fun h=>?_) fun h=>?_
   ·
    refine K0<|Tr<|Ra Y<|Za<|?_
    replace h := lx h ▸ ho1
    obtain rfl := rt h
    exact Zn (ZN Y (.one<|rb Y))
   ·
    exact Zh<|K5 0 1 9 10 11 Y<|Zq<|R2 ZI Y<|Rm Y<|Za<|⟨_, h, ES []⟩
  ·
   refine ZD<|?_
   replace h := lx h ▸ ho1
   exact ⟨(), h, ES []⟩
 ·
  replace h := elr h
  replace h := t0i h
  refine J0 (fun j => (.inr j)) ⟨[], []⟩ h (fun h=>?_) fun h=>?_
  ·
   refine Tr<|Rm Y<|Rl tZ_3 QK Y<|Rm Y<|Za<|Ze<|?_
   obtain ⟨r2, hl2, ho2⟩ := QP h
   refine L1 (fun i2=>⟨[(0, .rp [.sl 59 (List.map R59 b.memories), .sl 83 (List.map R83 b.spots)] 0), (25, .sl 3 (List.map R3 l)), (26, .int .i64 (l.length : Int)), (27, .int .i64 i2)], []⟩) hl2 (ES []) fun n2 i2 h=>?_
   unfold Ji at h
   refine Tr<|R2 ZJ Y<|Za<|Zf<|If h Y (fun h=>?_) fun h=>?_
   ·
    refine Zh<|Zf<|Ze<|K4 0 25 26 27 Y<|Tr<|bE h fun x2 h_x2 h=>Rq Y (Qo (ov Y) (ov Y) QK h_x2)<|Rq Y (Zi (ov Y) tS3 Y)<|Ra Y<|Za<|K5 0 8 25 26 27 Y<|Tr<|Rm Y<|Rm Y<|bE h fun y3 h_y3 h=>Rq Y (Zr (Zap h_y3)<|.cons (ov Y) (.b Y)<|.cons (ov Y) (.b Y) .nil)<|Rm Y<|Rq Y (.guarded (y3 == true) Y Y Y Y fun h => Zc<|ov Y)<|Rq Y (.guarded (y3 == true) Y Y Y Y fun h => Zc<|ov Y)<|Rq Y (.guarded (y3 == true) Y Y Y Y fun h => Zc<|ov Y)<|Rq Y (.guarded (y3 == true) Y Y Y Y fun h => Zc<|ov Y)<|bE h fun y4 h_y4 h=>Rq Y (.guarded (y3 == true) Y Y Y Y fun h => Zr (Zbn<|gdT h_y4 h)<|.cons (ow Y h) (.b Y)<|.cons (ow Y h) (.b Y) .nil)<|bE h fun y5 h_y5 h=>Rq Y (.guarded (y3 == true) Y Y Y Y fun h => Zr (ZbK<|gdT h_y5 h)<|.cons (ow Y h) (.b Y)<|.cons (ow Y h) (.b Y)<|.cons (ow Y h) (.b Y) .nil)<|Rq Y (.guarded (y3 == true) Y Y Y Y fun h => JR (ow Y h)<|ov Y)<|Rq Y (Zai (ov Y) fun hp=>ow Y<|gT hp)<|Za<|K5 0 25 26 27 42 Y<|If h Y (fun h=>?_) fun h=>?_
    ·
     refine K0<|Tr<|Ra Y<|Za<|?_
     replace h := lx h ▸ ho2
     obtain rfl := rt h
     exact Zn (ZN Y (.one<|rb Y))
    ·
     exact Zh<|K4 0 25 26 27 Y<|Zq<|R2 ZI Y<|Rm Y<|Za<|⟨_, h, ES []⟩
   ·
    refine ZD<|?_
    replace h := lx h ▸ ho2
    exact ⟨(), h, ES []⟩
  ·
   replace h := elr h
   replace h := t0i h
   refine Tr<|Ra Y<|Za<|?_
   obtain rfl := rt h
   exact Zn (ZN Y (.one<|rb Y))
theorem Zib {f : Vector Int 64} {r : Bool} (h : ZcW f = some r) :
 CSpec Tryz.prog gl0 85 [.rp (List.map C44 f.toList) 0] (.bool r) := by
 unfold ZcW at h
 replace h := Z5 h
 refine So Tryz.func85 Y fun w0 A=>Tr<|Ra Y<|Za<|J0 (fun j => (.inr j)) ⟨[], []⟩ h (fun h=>?_) fun h=>?_
 ·
  refine K1 0 Y<|Tr<|Rm Y<|Za<|Ze<|?_
  obtain ⟨r1, hl1, ho1⟩ := QP h
  refine L1 (fun i=>⟨[(0, .rp (List.map C44 f.toList) 0), (4, .int .i64 i)], []⟩) hl1 (ES []) fun n1 i h=>?_
  unfold Zb5 at h
  refine Tr<|R2 ZJ Y<|Za<|Zf<|If h Y (fun h=>?_) fun h=>?_
  ·
   refine Zh<|Zf<|Ze<|K2 0 4 Y<|Tr<|Rm Y<|Ra Y<|Za<|K3 0 3 4 Y<|Tr<|Rm Y<|Rm Y<|R1 ZC Y<|bE h fun x h_x h=>Rq Y (QS (ov Y) (ov Y) Zan h_x)<|Rq Y (Zi (ov Y) Zbb<|Qx<|Xw (o := 0) (o' := (i.toNat * 1)) (Zs arL)<|Xs h_x)<|R2 JR Y<|Za<|K3 0 4 12 Y<|If h Y (fun h=>?_) fun h=>?_
   ·
    refine K0<|Tr<|Ra Y<|Za<|?_
    replace h := lx h ▸ ho1
    obtain rfl := rt h
    exact Zn (ZN Y (.one<|rb Y))
   ·
    exact Zh<|K2 0 4 Y<|Zq<|R2 ZI Y<|Rm Y<|Za<|⟨_, h, ES []⟩
  ·
   refine ZD<|?_
   replace h := lx h ▸ ho1
   exact ⟨(), h, ES []⟩
 ·
  replace h := elr h
  replace h := t0i h
  refine Tr<|Ra Y<|Za<|?_
  obtain rfl := rt h
  exact Zn (ZN Y (.one<|rb Y))
theorem ZeM {p : Vector Int 96} {i : Int} {w : Int} {r : (Vector Int 96)} (h : Jy p i w = some r) :
 GSpec Tryz.prog gl0 109 [.ptr 0 1 0 0, .int .i64 i, .int .u16 w] [some ⟨141, [(List.map C5 p.toList)]⟩] (.tuple []) [some ⟨141, [(List.map C5 r.toList)]⟩] := by
 unfold Jy at h
 replace h := Z5 h
 refine Z1 (by kernel_rfl) Tryz.func109 Y Y<|?_
 intro w0 A W φ0
 refine Tr<|Rm Y<|bE h fun q h_q h=>Rq Y (ZdU (ov Y) (ov Y) h_q)<|R2 ZfQ Y<|Ra Y<|Za<|Zf<|K4 0 1 2 6 Y<|Tr<|Rm Y<|bE h fun q2 h_q2 h=>Rq Y (Zaq (ov Y) (ov Y) h_q2)<|R2 JG Y<|Za<|K4 0 2 6 12 Y<|If h Y (fun h=>?_) fun h=>?_
 ·
  refine Zf<|K3 0 2 6 Y<|Qm (cw := ⟨false, false, [], [20, 24], []⟩) (by kernel_rfl)<|D1 0 Zc Y<|D1 1 Zc Y<|D1 5 Zc Y<|bE h fun q3 h_q3 h=>Dq 6 Y (Zao (ov Y) (ov Y) h_q3)<|Dq 7 Y (Qe (ov Y) Zda tI5 Y)<|D1 12 Zc Y<|D1 13 Zc Y<|D2 14 ZI Y<|Dq 15 Y (Zu (ov Y) Y Y)<|bE h fun x h_x h=>Dq 16 Y (JC (ov Y) (ov Y) Zdl Y Y h_x)<|Dq 17 Y (Zt (ov Y) Y Y Y tS5<|Qx<|Xw (o := 0) (o' := ((i64 ((i64 (q * 3)) + 1)).toNat * 1)) (Zs arL)<|Xs h_x)<|Dq 20 Y (Zu (ov Y) Y Y)<|bE h fun x2 h_x2 h=>Dq 21 Y (JC (ov Y) (ov Y) Zdl Y Y h_x2)<|ZM 2 _ Y (by kernel_rfl) Y Y (fun hp'=>Zc<|ov Y)<|ZM 3 _ Y (by kernel_rfl) Y Y (fun hp'=>Zc<|ov Y)<|ZM 4 _ Y (by kernel_rfl) Y Y (fun hp'=>Ziw (ov Y) (ov Y) Y)<|ZM 8 _ Y (by kernel_rfl) Y Y (fun hp'=>Zc<|ov Y)<|ZM 9 _ Y (by kernel_rfl) Y Y (fun hp'=>Jn (ov Y)<|ov Y)<|bE h fun q4 h_q4 h=>ZM 10 _ Y (by kernel_rfl) Y Y (fun hp'=>ZdZ (ov Y) (ov Y) h_q4)<|ZM 11 _ Y (by kernel_rfl) Y Y (fun hp'=>Qe (ov Y) Zda tI5 Y)<|ZM 18 _ Y (by kernel_rfl) Y Y (fun hp'=>Jn (ov Y)<|ov Y)<|ZM 19 _ Y (by kernel_rfl) Y Y (fun hp'=>Zeo (ov Y)<|ov Y)<|Dw 23 22 Y (Zu (ov Y) Y Y) (Zm (ov Y) (ov Y) (Zd tS5) Y Y Y (arB h_x2) (Zb Y)<|arS h_x2) ?_ ?_
  ·
   refine Do 22 Y (Zm (ov Y) (ov Y) (Zd tS5) Y Y Y (arB h_x2) (Zb Y)<|arS h_x2)<|bE h fun x3 h_x3 h=>Dq 24 Y (JC (ov Y) (ov Y) Zdl Y Y h_x3)<|Do 25 Y (Zm (ov Y) (ov Y) (Zd tS5) Y Y Y (arB h_x3) (Zb Y)<|arS h_x3)<|Dd<|?_
   obtain rfl := rt h
   exact Zn<|XY [some 0] Y .nil (.cons Y (ro1 (by exact Eq.trans (b := 96) arL tZ_141.symm)<|rld<|arD fun _ => Y) .nil) Y Y<|Qr rln
  ·
   refine Dq 23 Y (Zu (ov Y) Y Y)<|bE h fun x3 h_x3 h=>Dq 24 Y (JC (ov Y) (ov Y) Zdl Y Y h_x3)<|Do 25 Y (Zm (ov Y) (ov Y) (Zd tS5) Y Y Y (arB h_x3) (Zb Y)<|arS h_x3)<|Dd<|?_
   obtain rfl := rt h
   exact Zn<|XY [some 0] Y .nil (.cons Y (ro1 (by exact Eq.trans (b := 96) arL tZ_141.symm)<|rld<|arD fun _ => Y) .nil) Y Y<|Qr rln
 ·
  refine Zh<|K3 0 2 6 Y<|Qm (cw := ⟨false, false, [], [52, 55], []⟩) (by kernel_rfl)<|D1 0 Zc Y<|D1 1 Zc Y<|D2 2 ZI Y<|D1 6 Zc Y<|D1 7 Zc Y<|D2 8 ZI Y<|Dq 9 Y (Zu (ov Y) Y Y)<|bE h fun x4 h_x4 h=>Dq 10 Y (JC (ov Y) (ov Y) Zdl Y Y h_x4)<|Dq 11 Y (Zt (ov Y) Y Y Y tS5<|Qx<|Xw (o := 0) (o' := ((i64 ((i64 (q * 3)) + 1)).toNat * 1)) (Zs arL)<|Xs h_x4)<|D2 12 Jn Y<|D1 13 Zc Y<|bE h fun q5 h_q5 h=>Dq 14 Y (Zao (ov Y) (ov Y) h_q5)<|Dq 15 Y (Qe (ov Y) Zda tI5 Y)<|D2 16 Zeo Y<|Dq 19 Y (Zu (ov Y) Y Y)<|bE h fun x5 h_x5 h=>Dq 20 Y (JC (ov Y) (ov Y) Zdl Y Y h_x5)<|ZM 3 _ Y (by kernel_rfl) Y Y (fun hp'=>Zc<|ov Y)<|ZM 4 _ Y (by kernel_rfl) Y Y (fun hp'=>Zc<|ov Y)<|ZM 5 _ Y (by kernel_rfl) Y Y (fun hp'=>Ziw (ov Y) (ov Y) Y)<|ZM 17 _ Y (by kernel_rfl) Y Y (fun hp'=>Zc<|ov Y)<|ZM 18 _ Y (by kernel_rfl) Y Y (fun hp'=>Qe (ov Y) Zda tI5 Y)<|Dw 22 21 Y (Zu (ov Y) Y Y) (Zm (ov Y) (ov Y) (Zd tS5) Y Y Y (arB h_x5) (Zb Y)<|arS h_x5) ?_ ?_
  ·
   refine Do 21 Y (Zm (ov Y) (ov Y) (Zd tS5) Y Y Y (arB h_x5) (Zb Y)<|arS h_x5)<|bE h fun x6 h_x6 h=>Dq 23 Y (JC (ov Y) (ov Y) Zdl Y Y h_x6)<|Do 24 Y (Zm (ov Y) (ov Y) (Zd tS5) Y Y Y (arB h_x6) (Zb Y)<|arS h_x6)<|Dd<|?_
   obtain rfl := rt h
   exact Zft [some 0] Y .nil (.cons Y (ro1 (by exact Eq.trans (b := 96) arL tZ_141.symm)<|rld<|arD fun _ => Y) .nil) Y Y<|Qr rln
  ·
   refine Dq 22 Y (Zu (ov Y) Y Y)<|bE h fun x6 h_x6 h=>Dq 23 Y (JC (ov Y) (ov Y) Zdl Y Y h_x6)<|Do 24 Y (Zm (ov Y) (ov Y) (Zd tS5) Y Y Y (arB h_x6) (Zb Y)<|arS h_x6)<|Dd<|?_
   obtain rfl := rt h
   exact Zft [some 0] Y .nil (.cons Y (ro1 (by exact Eq.trans (b := 96) arL tZ_141.symm)<|rld<|arD fun _ => Y) .nil) Y Y<|Qr rln
theorem Zhj {p : Vector Int 96} {f : Vector Int 64} {r : (Vector Int 96)} (h : Zc6 p f = some r) :
 GSpec Tryz.prog gl0 86 [.ptr 0 1 0 0, .rp (List.map C44 f.toList) 0] [some ⟨141, [(List.map C5 p.toList)]⟩] (.tuple []) [some ⟨141, [(List.map C5 r.toList)]⟩] := by
 unfold Zc6 at h
 replace h := Z5 h
 refine Z1 (by kernel_rfl) Tryz.func86 Y Y<|?_
 intro w0 A W φ0
 refine Tr<|Rm Y<|Za<|Ze<|?_
 obtain ⟨r1, hl1, ho1⟩ := QP h
 refine L2 (fun o i=>⟨[(0, .ptr 0 1 0 0), (1, .rp (List.map C44 f.toList) 0), (5, .int .i64 i)], [some ⟨141, [(List.map C5 o.toList)]⟩]⟩) hl1 (ES [some 0]) fun n1 o i h=>?_
 unfold Zb7 at h
 refine Tr<|R2 ZJ Y<|Za<|Zf<|If h Y (fun h=>?_) fun h=>?_
 ·
  exact Zh<|Zf<|Ze<|K3 0 1 5 Y<|Tr<|Rm Y<|Ra Y<|Za<|K4 0 1 4 5 Y<|Zq<|Rm Y<|Rm Y<|Rm Y<|Rm Y<|R1 ZC Y<|bE h fun x h_x h=>Rq Y (QS (ov Y) (ov Y) Zan h_x)<|Rq Y (Zi (ov Y) Zbb<|Qx<|Xw (o := 0) (o' := (i.toNat * 1)) (Zs arL)<|Xs h_x)<|bE h fun y h_y h=>Rx Y (Zv [0] (ZeM h_y) (.cons (ov Y) (.ptr _ _ _ Y)<|.cons (ov Y) (.dat Y)<|.cons (ov Y) (.dat Y) .nil) (.cons Y (ro1 (by exact Eq.trans (b := 96) arL tZ_141.symm)<|rld<|arD fun _ => Y) .nil) Y (.lent 0 (.inl Y) Y (ro1 (by exact Eq.trans (b := 96) arL tZ_141.symm)<|rld<|arD fun _ => Y) .nil) Y Y<|Qr<|rld Y)<|Za<|K3 0 1 5 Y<|Zq<|R2 ZI Y<|Rm Y<|Za<|⟨_, h, ES [some 0]⟩
 ·
  refine ZD<|?_
  replace h := lx h ▸ ho1
  obtain rfl := rt h
  exact Zft [some 0] Y .nil (.cons Y (ro1 (by exact Eq.trans (b := 96) arL tZ_141.symm)<|rld<|arD fun _ => Y) .nil) Y Y<|Qr rln
theorem ZgD {f : Vector Int 64} {r : (List Int) × Int} (h : Zav f = some r) :
 CSpec Tryz.prog gl0 49 [.agg (List.map C44 f.toList)] (.tuple [.sl 5 (List.map R5 r.1), .int .i64 r.2]) := by
 unfold Zav at h
 replace h := Z5 h
 refine So Tryz.func49 Y fun w0 A=>Tr<|Rq Y (Zdu (cva<|ov Y) arL tZ_46<|arD fun _ => Y)<|Ra Y<|Ra Y<|Za<|Zf<|K1 1 Y<|Tr<|bE h fun y h_y h=>Rq Y (Zr (Zib h_y)<|.cons (ov Y) (.b Y) .nil)<|Za<|If h Y (fun h=>?_) fun h=>?_
 ·
  refine K0<|Tr<|Ra Y<|Ra Y<|Za<|?_
  obtain rfl := rt h
  exact Zn (ZN Y (.two (.tmp Y<|View.nils 5)<|rb Y))
 ·
  refine Zh<|K1 1 Y<|Tr<|Rx Y (Qg (row := (List.map C5 (Vector.replicate 96 0).toList)) 0 Y ZlB Y tZ_141)<|Za<|Tr<|bE h fun y2 h_y2 h=>Rx Y (Zv [0] (Zhj h_y2) (.cons (ov Y) (.ptr _ _ _ Y)<|.cons (ov Y) (.dat Y) .nil) (.cons Y (ro1 (by exact Eq.trans (b := 96) arL tZ_141.symm)<|rld<|arD fun _ => Y) .nil) Y (.lent 0 (.inl Y) Y (ro1 (by exact Eq.trans (b := 96) arL tZ_141.symm)<|rld<|arD fun _ => Y) .nil) Y Y<|Qr<|rld Y)<|Za<|K1 4 Y<|Tr<|bE h fun l h_l h=>QW (Ent.sel [none] (sr 4 Y (.frp ⟨Y, ⟨_, Y⟩, Y, (arD fun _ => Y)⟩) sn) (.row 141 .nil) Y Y)<|Rq Y (Zj5 (f := C5) (ov Y) Zdl tZ_5 (Zs arL) Y on on h_l)<|Ra Y<|Ra Y<|Za<|?_
  obtain rfl := rt h
  exact Zn (ZN Y (.two (rb Y)<|rb Y))
theorem Zff {s : List Int} {power : Int} {r : Int × Bool × (List Int)} (h : QX s power = some r) :
 GSpec Tryz.prog gl0 29 [.own 0 s.length, .int .i64 power] [some ⟨5, List.map R5 s⟩] (.tuple [.int .i64 r.1, .bool r.2.1]) [some ⟨5, List.map R5 r.2.2⟩] := by
 unfold QX at h
 replace h := Z5 h
 refine Z1 (by kernel_rfl) Tryz.func29 Y Y<|?_
 intro w0 A W φ0
 refine Tr<|Ra Y<|Ra Y<|Za<|K2 0 1 Y<|Tr<|Rm Y<|Ra Y<|Za<|Zf<|K3 0 1 6 Y<|Tr<|Rm Y<|R2 JG Y<|Za<|K4 0 1 6 10 Y<|If h Y (fun h=>?_) fun h=>?_
 ·
  refine K3 0 1 6 Y<|Zq<|Rm Y<|Rm Y<|Rq Y (Zd2 (ov Y) Y Y ZL)<|bE h fun q h_q h=>Rq Y (ZdU (ov Y) (ov Y) h_q)<|bE h fun u h_u h=>Rq Y (ZlJ (ov Y) Y Y ZL on (oi<|ov Y) h_u)<|Ra Y<|Za<|I1 (fun o=>⟨[(1, .int .i64 power)], [some ⟨5, List.map R5 o⟩]⟩) h (fun h=>?_) fun o h=>?_
  ·
   refine K2 1 6 Y<|Tr<|Rm Y<|Rq Y (ZgE (ov Y) Y (List.length_map ..) ZL)<|Rm Y<|Za<|Ze<|?_
   obtain ⟨r1, hl1, ho1⟩ := QP h
   refine L2 (fun o2 i=>⟨[(1, .int .i64 power), (6, .osl 0 o2.length (Int.toNat 0) (Int.toNat (q - 0))), (17, .int .i64 ((Int.toNat (q - 0) : Nat) : Int)), (18, .int .i64 i)], [some ⟨5, List.map R5 o2⟩]⟩) hl1 (ES [some 0]<|sd 1 Y Y<|sr 6 Y (.osl _ _ _ Y)<|sd 17 Y Y<|sd 18 Y Y sn) fun n1 o2 i h=>?_
   unfold QD at h
   refine Tr<|R2 ZJ Y<|Za<|Zf<|If h Y (fun h=>?_) fun h=>?_
   ·
    exact Zh<|Zf<|Ze<|K4 1 6 17 18 Y<|Tr<|Rm Y<|Ra Y<|Za<|K5 1 6 7 17 18 Y<|Zq<|Rm Y<|Rm Y<|bE h fun u2 h_u2 h=>bE h fun x2 h_x2 h=>Rq Y (Zf8 (ov Y) (ov Y) ZL Y Y (Zf7 h_u).1 h_u2 h_x2)<|Rx Y (Qu (u' := 255) (ov Y) (ov Y) (Zd tS5) Y Y h_x2 Y (Zb Y) Y)<|Za<|K4 1 6 17 18 Y<|Zq<|R2 ZI Y<|Rm Y<|Za<|⟨_, h, ES [some 0]<|sd 1 Y Y<|sr 6 Y (Zln (Eq.symm<|(List.length_set ..).trans Y) Y)<|sd 17 Y Y<|sd 18 Y Y sn⟩
   ·
    refine ZD<|?_
    replace h := lx h ▸ ho1
    exact ⟨_, h, ES [some 0]⟩
  ·
   refine Tr<|Rm Y<|R2 Zac Y<|Rq Y (ZiX (ov Y) (ov Y) Y)<|Rm Y<|R2 JR Y<|Ra Y<|Ra Y<|Za<|?_
   obtain rfl := rt h
   exact Zn<|XY [some 0] Y (.cons (.tmp Y)<|.cons (.tmp Y) .nil) (.cons Y (roM D5) .nil) Y Y<|Qr<|rlc (.dat Y)<|rlc (.dat Y) rln
 ·
  refine Zh<|I1 (fun o3=>⟨[(1, .int .i64 power)], [some ⟨5, List.map R5 o3⟩]⟩) h (fun h=>?_) fun o3 h=>?_
  ·
   refine K2 1 6 Y<|Tr<|Rm Y<|Rq Y (Zd2 (ov Y) Y Y ZL)<|Rm Y<|Za<|Ze<|?_
   obtain ⟨r2, hl2, ho2⟩ := QP h
   refine L2 (fun o4 i2=>⟨[(1, .int .i64 power), (6, .own 0 o4.length), (17, .int .i64 (s.length : Int)), (18, .int .i64 i2)], [some ⟨5, List.map R5 o4⟩]⟩) hl2 (ES [some 0]) fun n2 o4 i2 h=>?_
   unfold QB at h
   refine Tr<|R2 ZJ Y<|Za<|Zf<|If h Y (fun h=>?_) fun h=>?_
   ·
    exact Zh<|Zf<|Ze<|K4 1 6 17 18 Y<|Tr<|Rm Y<|Ra Y<|Za<|K5 1 6 7 17 18 Y<|Zq<|Rm Y<|Rm Y<|bE h fun x3 h_x3 h=>Rq Y (ZY (ov Y) (ov Y) ZL Y Y h_x3)<|Rx Y (Qu (u' := 255) (ov Y) (ov Y) (Zd tS5) Y Y h_x3 Y (Zb Y) Y)<|Za<|K4 1 6 17 18 Y<|Zq<|R2 ZI Y<|Rm Y<|Za<|⟨_, h, ES [some 0]<|sd 1 Y Y<|sr 6 Y (Zcu (Eq.symm<|(List.length_set ..).trans Y) Y)<|sd 17 Y Y<|sd 18 Y Y sn⟩
   ·
    refine ZD<|?_
    replace h := lx h ▸ ho2
    exact ⟨_, h, ES [some 0]⟩
  ·
   refine Tr<|Rm Y<|R2 Zac Y<|Rq Y (ZiX (ov Y) (ov Y) Y)<|Rm Y<|R2 JR Y<|Ra Y<|Ra Y<|Za<|?_
   obtain rfl := rt h
   exact Zn<|XY [some 0] Y (.cons (.tmp Y)<|.cons (.tmp Y) .nil) (.cons Y (roM D5) .nil) Y Y<|Qr<|rlc (.dat Y)<|rlc (.dat Y) rln
theorem ZdJ {s : List Int} {at_ : Int} {data : List Int} {power : Int} {r : Int × Bool × (List Int)} (h : Xo s at_ data power = some r) :
 GSpec Tryz.prog gl0 26 [.own 0 s.length, .int .i64 at_, .sl 5 (List.map R5 data), .int .i64 power] [some ⟨5, List.map R5 s⟩] (.tuple [.int .i64 r.1, .bool r.2.1]) [some ⟨5, List.map R5 r.2.2⟩] := by
 unfold Xo at h
 replace h := Z5 h
 refine Z1 (by kernel_rfl) Tryz.func26 Y Y<|?_
 intro w0 A W φ0
 refine Tr<|Ra Y<|Ra Y<|Za<|J2 (fun j => (.inr j)) (fun o power2=>⟨[(3, .int .i64 power2)], [some ⟨5, List.map R5 o⟩]⟩) h (fun h=>?_) fun o power2 h=>?_
 ·
  refine K4 0 1 2 3 Y<|Tr<|Rm Y<|Rl tZ_5 ZL Y<|Rm Y<|Za<|Ze<|?_
  obtain ⟨r1, hl1, ho1⟩ := QP h
  refine L3 (fun o2 power3 i=>⟨[(0, .own 0 o2.length), (1, .int .i64 at_), (3, .int .i64 power3), (12, .sl 5 (List.map R5 data)), (13, .int .i64 (data.length : Int)), (14, .int .i64 i)], [some ⟨5, List.map R5 o2⟩]⟩) hl1 (ES [some 0]) fun n1 o2 power3 i h=>?_
  unfold Q0 at h
  refine Tr<|R2 ZJ Y<|Za<|Zf<|If h Y (fun h=>?_) fun h=>?_
  ·
   refine Zh<|Zf<|Ze<|K6 0 1 3 12 13 14 Y<|Tr<|Rm Y<|bE h fun x h_x h=>Rq Y (Qo (ov Y) (ov Y) ZL h_x)<|Rq Y (Zi (ov Y) tS5 Y)<|Ra Y<|Ra Y<|Za<|Zf<|K8 0 1 3 10 11 12 13 14 Y<|Tr<|Rm Y<|R2 JG Y<|Za<|K9 0 1 3 10 11 12 13 14 20 Y<|If h Y (fun h=>?_) fun h=>?_
   ·
    refine K4 0 1 10 11 Y<|Tr<|Rm Y<|Rm Y<|Rm Y<|R2 ZI Y<|bE h fun x2 h_x2 h=>Rq Y (ZY (ov Y) (ov Y) ZL Y Y h_x2)<|Rq Y (ZU (ov Y) Y Y h_x2 tS5 Y)<|Rm Y<|R2 Zeo Y<|R2 Jn Y<|bE h fun x3 h_x3 h=>Rq Y (ZY (ov Y) (ov Y) ZL Y Y h_x3)<|Rx Y (Qu (u' := (Q6 .u8 x2 (bor .u8 x 15))) (ov Y) (ov Y) (Zd tS5) Y Y h_x3 Y (Zb Y) Y)<|Za<|K0<|Tr<|Ra Y<|Ra Y<|Za<|?_
    replace h := lx h ▸ ho1
    obtain rfl := rt h
    exact Zn<|XY [some 0] Y (.cons (.tmp Y)<|.cons (.tmp Y) .nil) (.cons Y (roM D5) .nil) Y Y<|Qr<|rlc (.dat Y)<|rlc (.dat Y) rln
   ·
    exact Zh<|K8 0 1 3 10 11 12 13 14 Y<|Tr<|Rm Y<|Rm Y<|Rm Y<|R2 ZI Y<|bE h fun x4 h_x4 h=>Rq Y (ZY (ov Y) (ov Y) ZL Y Y h_x4)<|Rq Y (ZU (ov Y) Y Y h_x4 tS5 Y)<|Rm Y<|R2 Jn Y<|bE h fun x5 h_x5 h=>Rq Y (ZY (ov Y) (ov Y) ZL Y Y h_x5)<|Rx Y (Qu (u' := (Q6 .u8 x4 x)) (ov Y) (ov Y) (Zd tS5) Y Y h_x5 Y (Zb Y) Y)<|Za<|K6 0 1 3 12 13 14 Y<|Zq<|Rm Y<|R2 Zac Y<|Ra Y<|Za<|K6 0 1 3 12 13 14 Y<|Zq<|R2 ZI Y<|Rm Y<|Za<|⟨_, h, ES [some 0]<|sr 0 Y (Zcu (Eq.symm<|(List.length_set ..).trans Y) Y)<|sd 1 Y Y<|sd 3 Y Y<|sd 12 Y Y<|sd 13 Y Y<|sd 14 Y Y sn⟩
  ·
   refine ZD<|?_
   replace h := lx h ▸ ho1
   exact ⟨_, h, ES [some 0]⟩
 ·
  replace h := elr h
  replace h := t2i h
  refine Tr<|Rm Y<|Ra Y<|Ra Y<|Za<|?_
  obtain rfl := rt h
  exact Zn<|XY [some 0] Y (.cons (.tmp Y)<|.cons (.tmp Y) .nil) (.cons Y (roM D5) .nil) Y Y<|Qr<|rlc (.dat Y)<|rlc (.dat Y) rln
theorem Zc2 {b : ring_Recorder} {k : Int} {power : Int} {r : Int × Bool × ring_Recorder} (h : XO b k power = some r) :
 GSpec Tryz.prog gl0 87 [.ptr 0 1 0 0, .int .i64 k, .int .i64 power] [some ⟨80, [[.own 1 b.bank.memories.length, .own 2 b.bank.spots.length, .int .i64 b.copies, .bool b.frozen, .bool b.stopped, .int .i64 b.last, .bool b.some_]]⟩, some ⟨59, List.map O59 b.bank.memories⟩, some ⟨83, List.map R83 b.bank.spots⟩] (.tuple [.int .i64 r.1, .bool r.2.1]) [some ⟨80, [[.own 3 r.2.2.bank.memories.length, .own 4 r.2.2.bank.spots.length, .int .i64 r.2.2.copies, .bool r.2.2.frozen, .bool r.2.2.stopped, .int .i64 r.2.2.last, .bool r.2.2.some_]]⟩, none, none, some ⟨59, List.map O59 r.2.2.bank.memories⟩, some ⟨83, List.map R83 r.2.2.bank.spots⟩] := by
 unfold XO at h
 replace h := Z5 h
 refine Z1 (by kernel_rfl) Tryz.func87 Y Y<|?_
 intro w0 A W φ0
 refine Zfq (Ent.sel [some 0, some 1, some 2, some 1, some 2] (sr 0 Y (.ptr (r' := 0) _ _ _ Y)<|sd 1 Y Y<|sd 2 Y Y sn) (.cons Y (ro1 (by exact tZ_80.symm)<|rlc (.own (r' := 3) _ Y)<|rlc (.own (r' := 4) _ Y)<|rlc (.dat Y)<|rlc (.dat Y)<|rlc (.dat Y)<|rlc (.dat Y)<|rlc (.dat Y) rln)<|.dead<|.dead<|.cons Y (roO XC)<|.cons Y (roM D83) .nil) Y Y)<|Xa [some ⟨80, [[.own 3 b.bank.memories.length, .own 4 b.bank.spots.length, .int .i64 b.copies, .bool b.frozen, .bool b.stopped, .int .i64 b.last, .bool b.some_]]⟩, none, none, some ⟨59, List.map O59 b.bank.memories⟩, some ⟨83, List.map R83 b.bank.spots⟩] Y<|Tr<|Ra Y<|Ra Y<|Za<|Zf<|K3 0 1 2 Y<|Qm (cw := md0) (by kernel_rfl)<|D1 0 Zc Y<|Dq 1 Y (Zu (ov Y) Y Y)<|Dq 2 Y (Zl (ov Y) Y Y ZdW)<|Dq 3 Y (Zt (ov Y) Y Y Y ZiL Y)<|D1 4 Zc Y<|bE h fun x h_x h=>Dq 5 Y (ZY (ov Y) (ov Y) ZcU Y Y h_x)<|D1 6 Zc Y<|D1 7 Zc Y<|bE h fun y h_y h=>Dq 8 Y (J3 (Zbn h_y) .int<|.cons (ov Y) (View.ptrS (j := 0) (k := 2) Y Y Y (Nat.le_of_ble_eq_true Y)<|.cons (View.ownO Y Y XC (fun x=>(D59 x).1) Zjw)<|.cons (View.ownM Y Y D83) .nil)<|.cons (ov Y) (Dat.view<|.b Y) .nil)<|D1 9 Qh Y<|D1 10 Qh Y<|Dd<|K5 0 1 2 8 9 Y<|Tr<|Rm Y<|Rm Y<|Rm Y<|bE h fun y2 h_y2 h=>Rq Y (J3 (ZbK h_y2) .int<|.cons (ov Y) (View.ptrS (j := 0) (k := 2) Y Y Y (Nat.le_of_ble_eq_true Y)<|.cons (View.ownO Y Y XC (fun x=>(D59 x).1) Zjw)<|.cons (View.ownM Y Y D83) .nil)<|.cons (ov Y) (Dat.view<|.b Y)<|.cons (ov Y) (Dat.view<|.b Y) .nil)<|Ra Y<|Za<|K6 0 1 2 8 9 10 Y<|Tr<|Rm Y<|Rq Y (Zu (ov Y) Y<|List.length_map ..)<|Rq Y (ZcN (ov Y) Y Y Zfy)<|QW (Ent.focusH (r := 3) (j := 3) (e' := 3) (g := R3) (ys := x.Wear) Y (Zx h_x).2 Y DR3)<|Rq Y (Zck (ov Y) Y Y (Zx h_x).2 ZjI Y)<|Rm Y<|bE h fun x2 h_x2 h=>Rq Y (ZY (ov Y) (ov Y) QK Y Y h_x2)<|Rq Y (ZU (ov Y) Y Y h_x2 tS3 Y)<|R2 ZI Y<|bE h fun x3 h_x3 h=>Rq Y (ZY (ov Y) (ov Y) QK Y Y h_x3)<|Rx Y (Qu (u' := (i64 (x2 + 1))) (ov Y) (ov Y) (Zd tS3) Y Y h_x3 Y (Zb Y) Y)<|ZeS [some ⟨80, [[.own 3 b.bank.memories.length, .own 4 b.bank.spots.length, .int .i64 b.copies, .bool b.frozen, .bool b.stopped, .int .i64 b.last, .bool b.some_]]⟩, none, none, some ⟨59, List.set (List.map O59 b.bank.memories) k.toNat [.int .i64 x.Slots, .int .i64 x.Limit, .osub 22 (List.map O22 x.Sectors), .own 5 x.Wear.length, .osub 4 (List.map R4 x.Bad)]⟩, some ⟨83, List.map R83 b.bank.spots⟩, some ⟨3, List.map R3 (x.Wear.set y.toNat (i64 (x2 + 1)))⟩] Y<|?_
 have h_x4 := XN (y := (api_Memory.mk x.Slots x.Limit x.Sectors (x.Wear.set y.toNat (i64 (x2 + 1))) x.Bad)) h_x
 have h_x5 := XN (y := (api_Memory.mk x.Slots x.Limit x.Sectors (x.Wear.set y.toNat (i64 (x2 + 1))) x.Bad)) h_x
 have h_x6 := XN (y := (api_Memory.mk x.Slots x.Limit x.Sectors (x.Wear.set y.toNat (i64 (x2 + 1))) x.Bad)) h_x
 have h_x7 := XN (y := (api_Memory.mk x.Slots x.Limit x.Sectors (x.Wear.set y.toNat (i64 (x2 + 1))) x.Bad)) h_x
 refine QW (Ent.absorbH (r := 3) (j := 3) (q := 5) Y (Zx h_x).2 Y Y ((List.length_map ..).trans<|(List.length_set ..).trans Y) Y)<|QW (Ent.closeH (r := 3) (y := (api_Memory.mk x.Slots x.Limit x.Sectors (x.Wear.set y.toNat (i64 (x2 + 1))) x.Bad)) Y Y)<|Za<|K6 0 1 2 8 9 10 Y<|Xa [some ⟨80, [[.own 3 b.bank.memories.length, .own 4 b.bank.spots.length, .int .i64 b.copies, .bool b.frozen, .bool b.stopped, .int .i64 b.last, .bool b.some_]]⟩, none, none, some ⟨59, List.map O59 (b.bank.memories.set k.toNat (api_Memory.mk x.Slots x.Limit x.Sectors (x.Wear.set y.toNat (i64 (x2 + 1))) x.Bad))⟩, some ⟨83, List.map R83 b.bank.spots⟩, none] Y<|Tr<|Rm Y<|Rq Y (Zu (ov Y) Y<|(List.length_map ..).trans<|(List.length_set ..).trans Y)<|Rq Y (ZcN (ov Y) Y ((List.length_set ..).trans Y) ZH)<|QW (Ent.focusH (r := 3) (j := 2) (e' := 22) (g := O22) (ys := x.Sectors) Y (Zx h_x4).2 Y XD)<|Rq Y (Zck (ov Y) Y ((List.length_set ..).trans Y) (Zx h_x4).2 Ql Y)<|Rm Y<|bE h fun x8 h_x8 h=>Rq Y (ZY (ov Y) (ov Y) Z8 Y Y h_x8)<|QW (Ent.focusH (r := 6) (j := 0) (e' := 5) (g := R5) (ys := x8) Y (Zx h_x8).2 Y DR5)<|Rq Y (Zck (ov Y) Y Y (Zx h_x8).2 Zhi Y)<|Rm Y<|bE h fun y3 h_y3 h=>Rx Y (Zv [7] (Zff h_y3) (.cons (ov Y) (.own _ Y)<|.cons (ov Y) (.dat Y) .nil) (.cons Y (roM D5) .nil) Y (.keep Y Y<|.none<|.none<|.keep Y Y<|.keep Y Y<|.none<|.keep Y Y<|.lent 0 (.inl Y) Y (roM D5) .nil) Y Y<|Qr<|rld Y)<|Rm Y<|Rq Y (Zg (ov Y) Y)<|Rq Y (Zg (ov Y) Y)<|Ra Y<|Ra Y<|ZeS [some ⟨80, [[.own 3 b.bank.memories.length, .own 4 b.bank.spots.length, .int .i64 b.copies, .bool b.frozen, .bool b.stopped, .int .i64 b.last, .bool b.some_]]⟩, none, none, some ⟨59, List.set (List.map O59 (b.bank.memories.set k.toNat (api_Memory.mk x.Slots x.Limit x.Sectors (x.Wear.set y.toNat (i64 (x2 + 1))) x.Bad))) k.toNat [.int .i64 x.Slots, .int .i64 x.Limit, .own 6 x.Sectors.length, .osub 3 (List.map R3 (x.Wear.set y.toNat (i64 (x2 + 1)))), .osub 4 (List.map R4 x.Bad)]⟩, some ⟨83, List.map R83 b.bank.spots⟩, none, some ⟨22, List.set (List.map O22 x.Sectors) y.toNat [.own 7 x8.length]⟩, some ⟨5, List.map R5 y3.2.2⟩] Y<|?_
 have h_x9 := XN (y := y3.2.2) h_x8
 have h_x10 := XN (y := (api_Memory.mk x.Slots x.Limit (x.Sectors.set y.toNat y3.2.2) (x.Wear.set y.toNat (i64 (x2 + 1))) x.Bad)) h_x4
 have h_x11 := XN (y := (api_Memory.mk x.Slots x.Limit (x.Sectors.set y.toNat y3.2.2) (x.Wear.set y.toNat (i64 (x2 + 1))) x.Bad)) h_x4
 have h_x12 := XN (y := (api_Memory.mk x.Slots x.Limit (x.Sectors.set y.toNat y3.2.2) (x.Wear.set y.toNat (i64 (x2 + 1))) x.Bad)) h_x4
 have h_x13 := XN (y := (api_Memory.mk x.Slots x.Limit (x.Sectors.set y.toNat y3.2.2) (x.Wear.set y.toNat (i64 (x2 + 1))) x.Bad)) h_x4
 refine QW (Ent.absorbH (r := 6) (j := 0) (q := 7) Y (Zx h_x8).2 Y Y ((List.length_map ..).trans<|Zfi h_y3) Y)<|QW (Ent.closeH (r := 6) (y := y3.2.2) Y Y)<|QW (Ent.absorbH (r := 3) (j := 2) (q := 6) Y (Zx h_x4).2 Y Y ((List.length_map ..).trans<|(List.length_set ..).trans Y) Y)<|QW (Ent.closeH (r := 3) (y := (api_Memory.mk x.Slots x.Limit (x.Sectors.set y.toNat y3.2.2) (x.Wear.set y.toNat (i64 (x2 + 1))) x.Bad)) Y Y)<|Za<|Zf<|K7 0 1 2 8 9 10 11 Y<|Xa [some ⟨80, [[.own 3 b.bank.memories.length, .own 4 b.bank.spots.length, .int .i64 b.copies, .bool b.frozen, .bool b.stopped, .int .i64 b.last, .bool b.some_]]⟩, none, none, some ⟨59, List.map O59 ((b.bank.memories.set k.toNat (api_Memory.mk x.Slots x.Limit x.Sectors (x.Wear.set y.toNat (i64 (x2 + 1))) x.Bad)).set k.toNat (api_Memory.mk x.Slots x.Limit (x.Sectors.set y.toNat y3.2.2) (x.Wear.set y.toNat (i64 (x2 + 1))) x.Bad))⟩, some ⟨83, List.map R83 b.bank.spots⟩, none, none, none] Y<|Tr<|Rm Y<|R1 XW Y<|Za<|K7 0 1 2 8 9 10 47 Y<|If h Y (fun h=>?_) fun h=>?_
 ·
  refine K1 2 Y<|Tr<|Rm Y<|Ra Y<|Ra Y<|Za<|?_
  obtain rfl := rt h
  exact Zn<|XY [some 0, some 1, some 2, some 3, some 4] Y (.cons (.tmp Y)<|.cons (.tmp Y) .nil) (.cons Y (ro1 (by exact tZ_80.symm)<|rlc (Zcu (Eq.symm<|(List.length_set ..).trans<|(List.length_set ..).trans Y) Y)<|rlc (.own _ Y)<|rlc (.dat Y)<|rlc (.dat Y)<|rlc (.dat Y)<|rlc (.dat Y)<|rlc (.dat Y) rln)<|.dead<|.dead<|.cons Y (roO XC)<|.cons Y (roM D83) .nil) Y Y<|Qr<|rlc (.dat Y)<|rlc (.dat Y) rln
 ·
  refine Zh<|I4 (fun memories spots power2 all=>⟨[(2, .int .i64 power2), (11, .bool all)], [some ⟨80, [[.own 3 memories.length, .own 4 spots.length, .int .i64 b.copies, .bool b.frozen, .bool b.stopped, .int .i64 b.last, .bool b.some_]]⟩, none, none, some ⟨59, List.map O59 memories⟩, some ⟨83, List.map R83 spots⟩]⟩) h (fun h=>?_) fun memories spots power2 all h=>?_
  ·
   refine Zf<|K6 0 1 2 8 9 10 Y<|bE h fun x14 h_x14 h=>Zfq (Ent.focusH (r := 3) (j := 2) (e' := 22) (g := O22) (ys := x14.Sectors) Y (Zx h_x14).2 Y XD)<|bE h fun x15 h_x15 h=>Zfq (Ent.focusH (r := 8) (j := 0) (e' := 5) (g := R5) (ys := x15) Y (Zx h_x15).2 Y DR5)<|Qm (cw := ⟨true, true, [some ⟨80, [[.own 3 b.bank.memories.length, .own 4 b.bank.spots.length, .int .i64 b.copies, .bool b.frozen, .bool b.stopped, .int .i64 b.last, .bool b.some_]]⟩, none, none, some ⟨59, List.set (List.map O59 ((b.bank.memories.set k.toNat (api_Memory.mk x.Slots x.Limit x.Sectors (x.Wear.set y.toNat (i64 (x2 + 1))) x.Bad)).set k.toNat (api_Memory.mk x.Slots x.Limit (x.Sectors.set y.toNat y3.2.2) (x.Wear.set y.toNat (i64 (x2 + 1))) x.Bad))) k.toNat [.int .i64 x14.Slots, .int .i64 x14.Limit, .own 8 x14.Sectors.length, .osub 3 (List.map R3 x14.Wear), .osub 4 (List.map R4 x14.Bad)]⟩, some ⟨83, List.map R83 b.bank.spots⟩, none, none, none, some ⟨22, List.set (List.map O22 x14.Sectors) y.toNat [.own 9 x15.length]⟩, some ⟨5, List.map R5 x15⟩], [], [9]⟩) (by kernel_rfl)<|D1 7 Zc Y<|ZM 0 _ Y (by kernel_rfl) Y Y (fun hp'=>Zc<|ov Y)<|XE 1 _ Y (by kernel_rfl) Y Y Y (EL.ext<|.keep<|.keep<|.keep<|.keep<|.keep<|.keep<|.keep<|.keep<|.keep<|.wr Y Y Y .nil) (fun hp' hx=>Zu (ov Y) (hx.get Y Y)<|((List.length_set ..).trans (List.length_map ..)).trans<|(List.length_set ..).trans<|(List.length_set ..).trans Y)<|XE 2 _ Y (by kernel_rfl) Y Y Y (EL.ext<|.keep<|.keep<|.keep<|.keep<|.keep<|.keep<|.keep<|.keep<|.keep<|.wr Y Y Y .nil) (fun hp' hx=>Zil (ov Y) (hx.get Y Y) ((List.length_set ..).trans<|(List.length_set ..).trans Y) ZH)<|XE 3 _ Y (by kernel_rfl) Y Y Y (EL.ext<|.keep<|.keep<|.keep<|.keep<|.keep<|.keep<|.keep<|.keep<|.keep<|.wr Y Y Y .nil) (fun hp' hx=>Zck (ov Y) (hx.get Y Y) ((List.length_set ..).trans<|(List.length_set ..).trans Y) (Zx h_x14).2 Ql Y)<|ZM 4 _ Y (by kernel_rfl) Y Y (fun hp'=>Zc<|ov Y)<|bE h fun x16 h_x16 h=>XE 5 _ Y (by kernel_rfl) Y Y Y (EL.ext<|.keep<|.keep<|.keep<|.keep<|.keep<|.keep<|.keep<|.keep<|.keep<|.wr Y Y Y .nil) (fun hp' hx=>ZjF (ov Y) (ov Y) Z8 (hx.get Y Y) Y h_x16)<|XE 6 _ Y (by kernel_rfl) Y Y Y (EL.ext<|.keep<|.keep<|.keep<|.keep<|.keep<|.keep<|.keep<|.keep<|.keep<|.wr Y Y Y .nil) (fun hp' hx=>Zck (ov Y) (hx.get Y Y) Y (Zx h_x15).2 Zhi Y)<|ZM 9 _ Y (by kernel_rfl) Y Y (fun hp'=>Zc<|ov Y)<|bE h fun y4 h_y4 h=>JK 8 _ _ Y (by kernel_rfl) Y Y (fun h=>by cases h) (fun _=>by exact EL.ext (.keep <| .keep <| .keep <| .keep <| .keep <| .keep <| .keep <| .keep <| .keep <| .wr rfl rfl rfl <| .nil)) (XQ<|Zr (ZeZ h_y4)<|.cons (ov Y) (.b Y) .nil)<|bE h fun y5 h_y5 h=>JK 10 _ _ Y (by kernel_rfl) Y Y (fun h=>by cases h) (fun _=>by exact EL.ext (.keep <| .keep <| .keep <| .keep <| .keep <| .keep <| .keep <| .keep <| .keep <| .wr rfl rfl ((List.length_map ..).trans (Eq.trans (J5 h_y5) (Eq.symm ((List.length_map ..).trans rfl)))) <| .nil)) (Zv [9] (ZdJ h_y5) (.cons (ov Y) (.own _ Y)<|.cons (ov Y) (.dat Y)<|.cons (ov Y) (.dat Y)<|.cons (ov Y) (.dat Y) .nil) (.cons Y (roM D5) .nil) Y (.keep Y Y<|.none<|.none<|.keep Y Y<|.keep Y Y<|.none<|.none<|.none<|.keep Y Y<|.lent 0 (.inl Y) Y (roM D5) .nil) Y Y<|Qr<|rld Y)<|D1 11 Zc Y<|Dq 12 Y (Zg (ov Y) Y)<|Dq 13 Y (Zg (ov Y) Y)<|D1 14 Qh Y<|D1 15 Qh Y<|?_
   have h_x17 := XN (y := y5.2.2) h_x16
   have h_x18 := XN (y := (api_Memory.mk x14.Slots x14.Limit (x14.Sectors.set y.toNat y5.2.2) x14.Wear x14.Bad)) h_x10
   have h_x19 := XN (y := (api_Memory.mk x14.Slots x14.Limit (x14.Sectors.set y.toNat y5.2.2) x14.Wear x14.Bad)) h_x10
   have h_x20 := XN (y := (api_Memory.mk x14.Slots x14.Limit (x14.Sectors.set y.toNat y5.2.2) x14.Wear x14.Bad)) h_x10
   have h_x21 := XN (y := (api_Memory.mk x14.Slots x14.Limit (x14.Sectors.set y.toNat y5.2.2) x14.Wear x14.Bad)) h_x10
   refine Z7 (by kernel_rfl) (Ent.trans (Ent.absorbH (r := 8) (j := 0) (q := 9) Y (Zx h_x15).2 Y Y ((List.length_map ..).trans<|J5 h_y5) Y)<|Ent.trans (Ent.closeH (r := 8) (y := y5.2.2) Y Y)<|Ent.trans (Ent.absorbH (r := 3) (j := 2) (q := 8) Y (Zx h_x14).2 Y Y ((List.length_map ..).trans<|(List.length_set ..).trans Y) Y)<|Ent.closeH (r := 3) (y := (api_Memory.mk x14.Slots x14.Limit (x14.Sectors.set y.toNat y5.2.2) x14.Wear x14.Bad)) Y Y)<|K5 0 1 2 9 11 Y<|Xa [some ⟨80, [[.own 3 b.bank.memories.length, .own 4 b.bank.spots.length, .int .i64 b.copies, .bool b.frozen, .bool b.stopped, .int .i64 b.last, .bool b.some_]]⟩, none, none, some ⟨59, List.map O59 (((b.bank.memories.set k.toNat (api_Memory.mk x.Slots x.Limit x.Sectors (x.Wear.set y.toNat (i64 (x2 + 1))) x.Bad)).set k.toNat (api_Memory.mk x.Slots x.Limit (x.Sectors.set y.toNat y3.2.2) (x.Wear.set y.toNat (i64 (x2 + 1))) x.Bad)).set k.toNat (api_Memory.mk x14.Slots x14.Limit (x14.Sectors.set y.toNat y5.2.2) x14.Wear x14.Bad))⟩, some ⟨83, List.map R83 b.bank.spots⟩, none, none, none, none, none] Y<|Tr<|Rm Y<|Za<|If h Y (fun h=>?_) fun h=>?_
   ·
    exact K5 0 1 2 9 11 Y<|Zq<|Rm Y<|Rq Y (Zu (ov Y) Y Y)<|Rq Y (Zl (ov Y) Y Y ZfD)<|Rq Y (Zt (ov Y) Y Y Y Zju Y)<|Rm Y<|Rm Y<|Rq Y (XI (ys := [_, _]) Zk8 ZkR Zkl (.cons (cvs (ov Y)<|Zj Y) .nil) Y)<|bE h fun x22 h_x22 h=>Rq Y (ZY (ov Y) (ov Y) ZjE Y Y h_x22)<|Rx Y (Qu (u' := (ring_spot.mk y 0)) (ov Y) (ov Y) (Zy ZiH Y) Y Y h_x22 Y (Zb Y) Y)<|Za<|⟨_, h, ES [some 0, some 1, some 2, some 3, some 4] (hhp := .cons Y (ro1 (by exact tZ_80.symm)<|rlc (Zcu (Eq.symm<|(List.length_set ..).trans<|(List.length_set ..).trans<|(List.length_set ..).trans Y) Y)<|rlc (Zcu (Eq.symm<|(List.length_set ..).trans Y) Y)<|rlc (.dat Y)<|rlc (.dat Y)<|rlc (.dat Y)<|rlc (.dat Y)<|rlc (.dat Y) rln)<|.dead<|.dead<|.cons Y (roO XC)<|.cons Y (roM D83) .nil)⟩
   ·
    exact Zh<|⟨_, h, ES [some 0, some 1, some 2, some 3, some 4] (hhp := .cons Y (ro1 (by exact tZ_80.symm)<|rlc (Zcu (Eq.symm<|(List.length_set ..).trans<|(List.length_set ..).trans<|(List.length_set ..).trans Y) Y)<|rlc (.own _ Y)<|rlc (.dat Y)<|rlc (.dat Y)<|rlc (.dat Y)<|rlc (.dat Y)<|rlc (.dat Y) rln)<|.dead<|.dead<|.cons Y (roO XC)<|.cons Y (roM D83) .nil)⟩
  ·
   refine Tr<|Rm Y<|Rm Y<|Ra Y<|Ra Y<|Za<|?_
   obtain rfl := rt h
   exact Zn<|XY [some 0, some 1, some 2, some 3, some 4] Y (.cons (.tmp Y)<|.cons (.tmp Y) .nil) (.cons Y (ro1 (by exact tZ_80.symm)<|rlc (.own _ Y)<|rlc (.own _ Y)<|rlc (.dat Y)<|rlc (.dat Y)<|rlc (.dat Y)<|rlc (.dat Y)<|rlc (.dat Y) rln)<|.dead<|.dead<|.cons Y (roO XC)<|.cons Y (roM D83) .nil) Y Y<|Qr<|rlc (.dat Y)<|rlc (.dat Y) rln
theorem Zc4 {b : ring_Recorder} {k : Int} {data : List Int} {power : Int} {r : Int × Bool × ring_Recorder} (h : Jz b k data power = some r) :
 GSpec Tryz.prog gl0 50 [.ptr 0 1 0 0, .int .i64 k, .slf 5 (List.map R5 data), .int .i64 power] [some ⟨80, [[.own 1 b.bank.memories.length, .own 2 b.bank.spots.length, .int .i64 b.copies, .bool b.frozen, .bool b.stopped, .int .i64 b.last, .bool b.some_]]⟩, some ⟨59, List.map O59 b.bank.memories⟩, some ⟨83, List.map R83 b.bank.spots⟩] (.tuple [.int .i64 r.1, .bool r.2.1]) [some ⟨80, [[.own 3 r.2.2.bank.memories.length, .own 4 r.2.2.bank.spots.length, .int .i64 r.2.2.copies, .bool r.2.2.frozen, .bool r.2.2.stopped, .int .i64 r.2.2.last, .bool r.2.2.some_]]⟩, none, none, some ⟨59, List.map O59 r.2.2.bank.memories⟩, some ⟨83, List.map R83 r.2.2.bank.spots⟩] := by
 unfold Jz at h
 replace h := Z5 h
 refine Z1 (by kernel_rfl) Tryz.func50 Y Y<|?_
 intro w0 A W φ0
 refine Zfq (Ent.sel [some 0, some 1, some 2, some 1, some 2] (sr 0 Y (.ptr (r' := 0) _ _ _ Y)<|sd 1 Y Y<|sd 2 Y Y<|sd 3 Y Y sn) (.cons Y (ro1 (by exact tZ_80.symm)<|rlc (.own (r' := 3) _ Y)<|rlc (.own (r' := 4) _ Y)<|rlc (.dat Y)<|rlc (.dat Y)<|rlc (.dat Y)<|rlc (.dat Y)<|rlc (.dat Y) rln)<|.dead<|.dead<|.cons Y (roO XC)<|.cons Y (roM D83) .nil) Y Y)<|Xa [some ⟨80, [[.own 3 b.bank.memories.length, .own 4 b.bank.spots.length, .int .i64 b.copies, .bool b.frozen, .bool b.stopped, .int .i64 b.last, .bool b.some_]]⟩, none, none, some ⟨59, List.map O59 b.bank.memories⟩, some ⟨83, List.map R83 b.bank.spots⟩] Y<|Tr<|Ra Y<|Ra Y<|Za<|J8 (fun j => (.inr j)) (fun memories spots copies frozen stopped last some_ power2=>⟨[(0, .ptr 0 1 0 0), (1, .int .i64 k), (2, .slf 5 (List.map R5 data)), (3, .int .i64 power2)], [some ⟨80, [[.own 3 memories.length, .own 4 spots.length, .int .i64 copies, .bool frozen, .bool stopped, .int .i64 last, .bool some_]]⟩, none, none, some ⟨59, List.map O59 memories⟩, some ⟨83, List.map R83 spots⟩]⟩) h (fun h=>?_) fun memories spots copies frozen stopped last some_ power2 h=>?_
 ·
  refine K4 0 1 2 3 Y<|Tr<|Rm Y<|Rm Y<|bE h fun y h_y h=>Rq Y (J3 (Zap h_y) .bool<|.cons (ov Y) (View.ptrS (j := 0) (k := 2) Y Y Y (Nat.le_of_ble_eq_true Y)<|.cons (View.ownO Y Y XC (fun x=>(D59 x).1) Zjw)<|.cons (View.ownM Y Y D83) .nil)<|.cons (ov Y) (Dat.view<|.b Y) .nil)<|Za<|K5 0 1 2 3 15 Y<|If h Y (fun h=>?_) fun h=>?_
  ·
   refine K4 0 1 2 3 Y<|Tr<|Ra Y<|Za<|Tr<|Rm Y<|Rm Y<|Rm Y<|bE h fun y2 h_y2 h=>Rx Y (Zv [0, 3, 4] (Zc2 h_y2) (.cons (ov Y) (.ptr _ _ _ Y)<|.cons (ov Y) (.dat Y)<|.cons (ov Y) (.dat Y) .nil) (.cons Y (ro1 (by exact tZ_80.symm)<|rlc (.own _ Y)<|rlc (.own _ Y)<|rlc (.dat Y)<|rlc (.dat Y)<|rlc (.dat Y)<|rlc (.dat Y)<|rlc (.dat Y) rln)<|.cons Y (roO XC)<|.cons Y (roM D83) .nil) Y (.lent 0 (.inl Y) Y (ro1 (by exact tZ_80.symm)<|rlc (.own _<|.inr ⟨Nat.le_of_ble_eq_true Y, Y⟩)<|rlc (.own _<|.inr ⟨Nat.le_of_ble_eq_true Y, Y⟩)<|rlc (.dat Y)<|rlc (.dat Y)<|rlc (.dat Y)<|rlc (.dat Y)<|rlc (.dat Y) rln)<|.none<|.none<|.none<|.none<|.lent 3 (.inr ⟨Nat.le_of_ble_eq_true Y, Y⟩) Y (roO XC)<|.lent 4 (.inr ⟨Nat.le_of_ble_eq_true Y, Y⟩) Y (roM D83) .nil) Y Y<|Qr<|rld Y)<|Rm Y<|Rq Y (Zg (ov Y) Y)<|Rq Y (Zg (ov Y) Y)<|Ra Y<|Ra Y<|Za<|K5 0 1 2 3 10 Y<|Xa [some ⟨80, [[.own 5 y2.2.2.bank.memories.length, .own 6 y2.2.2.bank.spots.length, .int .i64 y2.2.2.copies, .bool y2.2.2.frozen, .bool y2.2.2.stopped, .int .i64 y2.2.2.last, .bool y2.2.2.some_]]⟩, none, none, none, none, some ⟨59, List.map O59 y2.2.2.bank.memories⟩, some ⟨83, List.map R83 y2.2.2.bank.spots⟩] Y<|Tr<|Rm Y<|R1 XW Y<|Za<|K5 0 1 2 3 24 Y<|If h Y (fun h=>?_) fun h=>?_
   ·
    refine K1 3 Y<|Tr<|Rm Y<|Ra Y<|Ra Y<|Za<|?_
    obtain rfl := rt h
    exact Zn<|XY [some 0, some 1, some 2, some 5, some 6] Y (.cons (.tmp Y)<|.cons (.tmp Y) .nil) (.cons Y (ro1 (by exact tZ_80.symm)<|rlc (.own _ Y)<|rlc (.own _ Y)<|rlc (.dat Y)<|rlc (.dat Y)<|rlc (.dat Y)<|rlc (.dat Y)<|rlc (.dat Y) rln)<|.dead<|.dead<|.cons Y (roO XC)<|.cons Y (roM D83) .nil) Y Y<|Qr<|rlc (.dat Y)<|rlc (.dat Y) rln
   ·
    exact Zh<|⟨_, h, ES [some 0, some 1, some 2, some 5, some 6] (hhp := .cons Y (ro1 (by exact tZ_80.symm)<|rlc (.own _ Y)<|rlc (.own _ Y)<|rlc (.dat Y)<|rlc (.dat Y)<|rlc (.dat Y)<|rlc (.dat Y)<|rlc (.dat Y) rln)<|.dead<|.dead<|.cons Y (roO XC)<|.cons Y (roM D83) .nil)⟩
  ·
   exact Zh<|⟨_, h, ES [some 0, some 1, some 2, some 3, some 4] (hhp := .cons Y (ro1 (by exact tZ_80.symm)<|rlc (.own _ Y)<|rlc (.own _ Y)<|rlc (.dat Y)<|rlc (.dat Y)<|rlc (.dat Y)<|rlc (.dat Y)<|rlc (.dat Y) rln)<|.dead<|.dead<|.cons Y (roO XC)<|.cons Y (roM D83) .nil)⟩
 ·
  replace h := elr h
  replace h := t8i h
  refine Tr<|Rm Y<|Rq Y (Zu (ov Y) Y Y)<|Rq Y (Zl (ov Y) Y Y ZfD)<|Rq Y (Zt (ov Y) Y Y Y Zju Y)<|Rm Y<|bE h fun x h_x h=>Rq Y (ZY (ov Y) (ov Y) ZjE Y Y h_x)<|Ra Y<|Za<|Zf<|K5 0 1 2 3 11 Y<|bE h fun x2 h_x2 h=>Zfq (Ent.focusH (r := 3) (j := 2) (e' := 22) (g := O22) (ys := x2.Sectors) Y (Zx h_x2).2 Y XD)<|bE h fun x3 h_x3 h=>Zfq (Ent.focusH (r := 5) (j := 0) (e' := 5) (g := R5) (ys := x3) Y (Zx h_x3).2 Y DR5)<|Qm (cw := ⟨true, true, [some ⟨80, [[.own 3 memories.length, .own 4 spots.length, .int .i64 copies, .bool frozen, .bool stopped, .int .i64 last, .bool some_]]⟩, none, none, some ⟨59, List.set (List.map O59 memories) k.toNat [.int .i64 x2.Slots, .int .i64 x2.Limit, .own 5 x2.Sectors.length, .osub 3 (List.map R3 x2.Wear), .osub 4 (List.map R4 x2.Bad)]⟩, some ⟨83, List.map R83 spots⟩, some ⟨22, List.set (List.map O22 x2.Sectors) x.sector.toNat [.own 6 x3.length]⟩, some ⟨5, List.map R5 x3⟩], [], [6]⟩) (by kernel_rfl)<|ZM 0 _ Y (by kernel_rfl) Y Y (fun hp'=>Zc<|ov Y)<|XE 1 _ Y (by kernel_rfl) Y Y Y (EL.ext<|.keep<|.keep<|.keep<|.keep<|.keep<|.keep<|.wr Y Y Y .nil) (fun hp' hx=>Zu (ov Y) (hx.get Y Y) Y)<|XE 2 _ Y (by kernel_rfl) Y Y Y (EL.ext<|.keep<|.keep<|.keep<|.keep<|.keep<|.keep<|.wr Y Y Y .nil) (fun hp' hx=>Zl (ov Y) (hx.get Y Y) Y ZdW)<|XE 3 _ Y (by kernel_rfl) Y Y Y (EL.ext<|.keep<|.keep<|.keep<|.keep<|.keep<|.keep<|.wr Y Y Y .nil) (fun hp' hx=>Zt (ov Y) (hx.get Y Y) Y Y ZiL Y)<|ZM 4 _ Y (by kernel_rfl) Y Y (fun hp'=>Zc<|ov Y)<|bE h fun x4 h_x4 h=>XE 5 _ Y (by kernel_rfl) Y Y Y (EL.ext<|.keep<|.keep<|.keep<|.keep<|.keep<|.keep<|.wr Y Y Y .nil) (fun hp' hx=>ZjF (ov Y) (ov Y) ZcU (hx.get Y Y) Y h_x4)<|XE 6 _ Y (by kernel_rfl) Y Y Y (EL.ext<|.keep<|.keep<|.keep<|.keep<|.keep<|.keep<|.wr Y Y Y .nil) (fun hp' hx=>Zil (ov Y) (hx.get Y Y) Y ZH)<|XE 7 _ Y (by kernel_rfl) Y Y Y (EL.ext<|.keep<|.keep<|.keep<|.keep<|.keep<|.keep<|.wr Y Y Y .nil) (fun hp' hx=>Zck (ov Y) (hx.get Y Y) Y (Zx h_x2).2 Ql Y)<|ZM 8 _ Y (by kernel_rfl) Y Y (fun hp'=>Zc<|ov Y)<|XE 9 _ Y (by kernel_rfl) Y Y Y (EL.ext<|.keep<|.keep<|.keep<|.keep<|.keep<|.keep<|.wr Y Y Y .nil) (fun hp' hx=>Zu (ov Y) (hx.get Y Y)<|List.length_map ..)<|XE 10 _ Y (by kernel_rfl) Y Y Y (EL.ext<|.keep<|.keep<|.keep<|.keep<|.keep<|.keep<|.wr Y Y Y .nil) (fun hp' hx=>ZcN (ov Y) (hx.get Y Y) Y ZgJ)<|XE 11 _ Y (by kernel_rfl) Y Y Y (EL.ext<|.keep<|.keep<|.keep<|.keep<|.keep<|.keep<|.wr Y Y Y .nil) (fun hp' hx=>ZU (ov Y) (hx.get Y Y) Y h_x tS3 Y)<|bE h fun x5 h_x5 h=>XE 12 _ Y (by kernel_rfl) Y Y Y (EL.ext<|.keep<|.keep<|.keep<|.keep<|.keep<|.keep<|.wr Y Y Y .nil) (fun hp' hx=>ZjF (ov Y) (ov Y) Z8 (hx.get Y Y) Y h_x5)<|XE 13 _ Y (by kernel_rfl) Y Y Y (EL.ext<|.keep<|.keep<|.keep<|.keep<|.keep<|.keep<|.wr Y Y Y .nil) (fun hp' hx=>Zck (ov Y) (hx.get Y Y) Y (Zx h_x3).2 Zhi Y)<|ZM 14 _ Y (by kernel_rfl) Y Y (fun hp'=>Zc<|ov Y)<|XE 15 _ Y (by kernel_rfl) Y Y Y (EL.ext<|.keep<|.keep<|.keep<|.keep<|.keep<|.keep<|.wr Y Y Y .nil) (fun hp' hx=>Zu (ov Y) (hx.get Y Y)<|List.length_map ..)<|XE 16 _ Y (by kernel_rfl) Y Y Y (EL.ext<|.keep<|.keep<|.keep<|.keep<|.keep<|.keep<|.wr Y Y Y .nil) (fun hp' hx=>ZcN (ov Y) (hx.get Y Y) Y Zh0)<|XE 17 _ Y (by kernel_rfl) Y Y Y (EL.ext<|.keep<|.keep<|.keep<|.keep<|.keep<|.keep<|.wr Y Y Y .nil) (fun hp' hx=>ZU (ov Y) (hx.get Y Y) Y h_x tS3 Y)<|ZM 18 _ Y (by kernel_rfl) Y Y (fun hp'=>ZlG (ov Y) (ov Y) Y)<|ZM 19 _ Y (by kernel_rfl) Y Y (fun hp'=>Ziw (ov Y) (ov Y) Y)<|ZM 20 _ Y (by kernel_rfl) Y Y (fun hp'=>Zc<|ov Y)<|ZM 23 _ Y (by kernel_rfl) Y Y (fun hp'=>Zc<|ov Y)<|JK 21 (.sl 5<|List.map R5 ([0] : List Int)) _ Y (by kernel_rfl) Y Y (fun h=>by cases h) (fun _=>by exact EL.ext (.keep <| .keep <| .keep <| .keep <| .keep <| .keep <| .wr rfl rfl rfl <| .nil)) (XQ<|XX ZL (.cons (cvs (ov Y)<|Zj Y) Y (.cons (.b Y) .nil) .nil) Y Y)<|bE h fun l h_l h=>JK 22 _ _ Y (by kernel_rfl) Y Y (fun h=>by cases h) (fun _=>by exact EL.ext (.keep <| .keep <| .keep <| .keep <| .keep <| .keep <| .wr rfl rfl rfl <| .nil)) (XQ<|Zkd (f := R5) (ov Y) (Qt (ov Y) tZ_5) ZL Y Y (fun x=>(D5 x).2) h_l)<|bE h fun y3 h_y3 h=>JK 24 _ _ Y (by kernel_rfl) Y Y (fun h=>by cases h) (fun _=>by exact EL.ext (.keep <| .keep <| .keep <| .keep <| .keep <| .keep <| .wr rfl rfl ((List.length_map ..).trans (Eq.trans (J5 h_y3) (Eq.symm ((List.length_map ..).trans rfl)))) <| .nil)) (Zv [6] (ZdJ h_y3) (.cons (ov Y) (.own _ Y)<|.cons (ov Y) (.dat Y)<|.cons (ov Y) (.dat Y)<|.cons (ov Y) (.dat Y) .nil) (.cons Y (roM D5) .nil) Y (.keep Y Y<|.none<|.none<|.keep Y Y<|.keep Y Y<|.keep Y Y<|.lent 0 (.inl Y) Y (roM D5) .nil) Y Y<|Qr<|rld Y)<|D1 25 Zc Y<|Dq 26 Y (Zg (ov Y) Y)<|Dq 27 Y (Zg (ov Y) Y)<|D1 28 Qh Y<|D1 29 Qh Y<|?_
  have h_x6 := XN (y := y3.2.2) h_x5
  have h_x7 := XN (y := (api_Memory.mk x2.Slots x2.Limit (x2.Sectors.set x.sector.toNat y3.2.2) x2.Wear x2.Bad)) h_x4
  have h_x8 := XN (y := (api_Memory.mk x2.Slots x2.Limit (x2.Sectors.set x.sector.toNat y3.2.2) x2.Wear x2.Bad)) h_x4
  refine Z7 (by kernel_rfl) (Ent.trans (Ent.absorbH (r := 5) (j := 0) (q := 6) Y (Zx h_x3).2 Y Y ((List.length_map ..).trans<|J5 h_y3) Y)<|Ent.trans (Ent.closeH (r := 5) (y := y3.2.2) Y Y)<|Ent.trans (Ent.absorbH (r := 3) (j := 2) (q := 5) Y (Zx h_x2).2 Y Y ((List.length_map ..).trans<|(List.length_set ..).trans Y) Y)<|Ent.closeH (r := 3) (y := (api_Memory.mk x2.Slots x2.Limit (x2.Sectors.set x.sector.toNat y3.2.2) x2.Wear x2.Bad)) Y Y)<|K3 3 11 12 Y<|Xa [some ⟨80, [[.own 3 memories.length, .own 4 spots.length, .int .i64 copies, .bool frozen, .bool stopped, .int .i64 last, .bool some_]]⟩, none, none, some ⟨59, List.map O59 (memories.set k.toNat (api_Memory.mk x2.Slots x2.Limit (x2.Sectors.set x.sector.toNat y3.2.2) x2.Wear x2.Bad))⟩, some ⟨83, List.map R83 spots⟩, none, none] Y<|Tr<|Rm Y<|Rq Y (Zu (ov Y) Y<|List.length_map ..)<|Rq Y (ZcN (ov Y) Y Y Zh0)<|Rq Y (ZU (ov Y) Y Y h_x tS3 Y)<|R2 ZI Y<|Rq Y (Zu (ov Y) Y<|List.length_map ..)<|Rq Y (ZcN (ov Y) Y Y Zh0)<|Rx Y (Qu (u' := (ring_spot.mk x.sector (i64 (x.slot + 1)))) (ov Y) (ov Y) (Zd tS3) Y Y h_x Y (Zb Y) Y)<|Za<|K2 3 12 Y<|Xa [some ⟨80, [[.own 3 memories.length, .own 4 spots.length, .int .i64 copies, .bool frozen, .bool stopped, .int .i64 last, .bool some_]]⟩, none, none, some ⟨59, List.map O59 (memories.set k.toNat (api_Memory.mk x2.Slots x2.Limit (x2.Sectors.set x.sector.toNat y3.2.2) x2.Wear x2.Bad))⟩, some ⟨83, List.map R83 (spots.set k.toNat (ring_spot.mk x.sector (i64 (x.slot + 1))))⟩, none, none] Y<|Tr<|Rm Y<|Rm Y<|Ra Y<|Ra Y<|Za<|?_
  obtain rfl := rt h
  exact Zn<|XY [some 0, some 1, some 2, some 3, some 4] Y (.cons (.tmp Y)<|.cons (.tmp Y) .nil) (.cons Y (ro1 (by exact tZ_80.symm)<|rlc (Zcu (Eq.symm<|(List.length_set ..).trans Y) Y)<|rlc (Zcu (Eq.symm<|(List.length_set ..).trans Y) Y)<|rlc (.dat Y)<|rlc (.dat Y)<|rlc (.dat Y)<|rlc (.dat Y)<|rlc (.dat Y) rln)<|.dead<|.dead<|.cons Y (roO XC)<|.cons Y (roM D83) .nil) Y Y<|Qr<|rlc (.dat Y)<|rlc (.dat Y) rln
theorem Zdb {r_ : ring_Recorder} {f : Vector Int 64} {power : Int} {r : Int × Bool × Int × ring_Recorder} (h : Xb r_ f power = some r) :
 GSpec Tryz.prog gl0 17 [.ptr 0 1 0 0, .agg (List.map C44 f.toList), .int .i64 power] [some ⟨80, [[.own 1 r_.bank.memories.length, .own 2 r_.bank.spots.length, .int .i64 r_.copies, .bool r_.frozen, .bool r_.stopped, .int .i64 r_.last, .bool r_.some_]]⟩, some ⟨59, List.map O59 r_.bank.memories⟩, some ⟨83, List.map R83 r_.bank.spots⟩] (.tuple [.int .i64 r.1, .bool r.2.1, .int .i64 r.2.2.1]) [some ⟨80, [[.own 3 r.2.2.2.bank.memories.length, .own 4 r.2.2.2.bank.spots.length, .int .i64 r.2.2.2.copies, .bool r.2.2.2.frozen, .bool r.2.2.2.stopped, .int .i64 r.2.2.2.last, .bool r.2.2.2.some_]]⟩, none, none, some ⟨59, List.map O59 r.2.2.2.bank.memories⟩, some ⟨83, List.map R83 r.2.2.2.bank.spots⟩] := by
 unfold Xb at h
 replace h := Z5 h
 refine Z1 (by kernel_rfl) Tryz.func17 Y Y<|?_
 intro w0 A W φ0
 refine Zfq (Ent.sel [some 0, some 1, some 2, some 1, some 2] (sr 0 Y (.ptr (r' := 0) _ _ _ Y)<|sr 1 Y (Zey<|rld<|arD fun _ => Y)<|sd 2 Y Y sn) (.cons Y (ro1 (by exact tZ_80.symm)<|rlc (.own (r' := 3) _ Y)<|rlc (.own (r' := 4) _ Y)<|rlc (.dat Y)<|rlc (.dat Y)<|rlc (.dat Y)<|rlc (.dat Y)<|rlc (.dat Y) rln)<|.dead<|.dead<|.cons Y (roO XC)<|.cons Y (roM D83) .nil) Y Y)<|Xa [some ⟨80, [[.own 3 r_.bank.memories.length, .own 4 r_.bank.spots.length, .int .i64 r_.copies, .bool r_.frozen, .bool r_.stopped, .int .i64 r_.last, .bool r_.some_]]⟩, none, none, some ⟨59, List.map O59 r_.bank.memories⟩, some ⟨83, List.map R83 r_.bank.spots⟩] Y<|Tr<|Rq Y (Zdu (cva<|ov Y) arL tZ_46<|arD fun _ => Y)<|Ra Y<|Ra Y<|Ra Y<|Za<|Zf<|K3 0 2 4 Y<|Tr<|Rm Y<|Rm Y<|bE h fun y h_y h=>Rq Y (J3 (Zez h_y) .int<|.cons (ov Y) (View.ptrS (j := 0) (k := 7) Y Y Y (Nat.le_of_ble_eq_true Y)<|.cons (View.ownO Y Y XC (fun x=>(D59 x).1) Zjw)<|.cons (View.ownM Y Y D83)<|.cons (Dat.view<|.b Y)<|.cons (Dat.view<|.b Y)<|.cons (Dat.view<|.b Y)<|.cons (Dat.view<|.b Y)<|.cons (Dat.view<|.b Y) .nil)<|.cons (ov Y) (Dat.view<|.b Y) .nil)<|Ra Y<|Za<|K4 0 2 4 9 Y<|Tr<|Rm Y<|R2 Jf Y<|Za<|K5 0 2 4 9 23 Y<|If h Y (fun h=>?_) fun h=>?_
 ·
  refine K1 9 Y<|Tr<|Rm Y<|Ra Y<|Ra Y<|Ra Y<|Za<|?_
  obtain rfl := rt h
  exact Zn<|XY [some 0, some 1, some 2, some 3, some 4] Y (.cons (.tmp Y)<|.cons (.tmp Y)<|.cons (.tmp Y) .nil) (.cons Y (ro1 (by exact tZ_80.symm)<|rlc (.own _ Y)<|rlc (.own _ Y)<|rlc (.dat Y)<|rlc (.dat Y)<|rlc (.dat Y)<|rlc (.dat Y)<|rlc (.dat Y) rln)<|.dead<|.dead<|.cons Y (roO XC)<|.cons Y (roM D83) .nil) Y Y<|Qr<|rlc (.dat Y)<|rlc (.dat Y)<|rlc (.dat Y) rln
 ·
  refine Zh<|Zf<|K3 0 2 4 Y<|Tr<|Rq Y (Xp (ov Y) X8 (QL<|Zs arL) arL)<|bE h fun y2 h_y2 h=>Rq Y (Zr (ZeK h_y2)<|.cons (ov Y) (.aggB<|arD fun _ => Y) .nil)<|Rl tZ_133 ZgF Y<|R2 JR Y<|Za<|K4 0 2 4 28 Y<|If h Y (fun h=>?_) fun h=>?_
  ·
   refine K0<|Tr<|Ra Y<|Ra Y<|Ra Y<|Za<|?_
   obtain rfl := rt h
   exact Zn<|XY [some 0, some 1, some 2, some 3, some 4] Y (.cons (.tmp Y)<|.cons (.tmp Y)<|.cons (.tmp Y) .nil) (.cons Y (ro1 (by exact tZ_80.symm)<|rlc (.own _ Y)<|rlc (.own _ Y)<|rlc (.dat Y)<|rlc (.dat Y)<|rlc (.dat Y)<|rlc (.dat Y)<|rlc (.dat Y) rln)<|.dead<|.dead<|.cons Y (roO XC)<|.cons Y (roM D83) .nil) Y Y<|Qr<|rlc (.dat Y)<|rlc (.dat Y)<|rlc (.dat Y) rln
  ·
   refine Zh<|K3 0 2 4 Y<|Tr<|Rq Y (Xp (ov Y) X8 (QL<|Zs arL) arL)<|bE h fun y3 h_y3 h=>Rq Y (Zr (Zek h_y3)<|.cons (ov Y) (.aggB<|arD fun _ => Y) .nil)<|Rm Y<|Rq Y (Zg (ov Y) Y)<|Rq Y (Zg (ov Y) Y)<|Ra Y<|Ra Y<|Za<|Zf<|K4 0 2 4 10 Y<|Qm (cw := md0) (by kernel_rfl)<|D1 0 Zc Y<|D1 1 Zc Y<|Dq 2 Y (Zu (ov Y) Y Y)<|Dq 3 Y (Zl (ov Y) Y Y ZeY)<|Dq 4 Y (Zl (ov Y) Y Y ZdW)<|Dq 5 Y (Zt (ov Y) Y Y Y ZiL Y)<|Dq 6 Y (Zd2 (ov Y) Y Y ZcU)<|D1 7 Zc Y<|Dq 8 Y (Zu (ov Y) Y Y)<|Dq 9 Y (Zl (ov Y) Y Y Zl9)<|Dq 10 Y (Zt (ov Y) Y Y Y tS3 Y)<|bE h fun y4 h_y4 h=>Dq 11 Y (Zr (Zhh h_y4)<|.cons (ov Y) (.b Y)<|.cons (ov Y) (.b Y)<|.cons (ov Y) (.b Y) .nil)<|D1 12 Qh Y<|Dd<|Zf<|K5 0 2 4 10 12 Y<|Tr<|Rm Y<|Rq Y (Zu (ov Y) Y Y)<|Rq Y (Zl (ov Y) Y Y ZeY)<|Rm Y<|bE h fun y5 h_y5 h=>Rq Y (J3 (ZfF h_y5) .int<|.cons (ov Y) (View.ptrS (j := 0) (k := 2) Y Y Y (Nat.le_of_ble_eq_true Y)<|.cons (View.ownO Y Y XC (fun x=>(D59 x).1) Zjw)<|.cons (View.ownM Y Y D83) .nil)<|.cons (ov Y) (Dat.view<|.b Y) .nil)<|Ra Y<|Za<|K6 0 2 4 10 12 13 Y<|Tr<|Rm Y<|R2 Jf Y<|Za<|K7 0 2 4 10 12 13 52 Y<|If h Y (fun h=>?_) fun h=>?_
   ·
    refine K1 13 Y<|Tr<|Rm Y<|Ra Y<|Ra Y<|Ra Y<|Za<|?_
    obtain rfl := rt h
    exact Zn<|XY [some 0, some 1, some 2, some 3, some 4] Y (.cons (.tmp Y)<|.cons (.tmp Y)<|.cons (.tmp Y) .nil) (.cons Y (ro1 (by exact tZ_80.symm)<|rlc (.own _ Y)<|rlc (.own _ Y)<|rlc (.dat Y)<|rlc (.dat Y)<|rlc (.dat Y)<|rlc (.dat Y)<|rlc (.dat Y) rln)<|.dead<|.dead<|.cons Y (roO XC)<|.cons Y (roM D83) .nil) Y Y<|Qr<|rlc (.dat Y)<|rlc (.dat Y)<|rlc (.dat Y) rln
   ·
    refine Zh<|K5 0 2 4 10 12 Y<|Tr<|Rq Y (Xp (ov Y) X8 (QL<|Zs arL) arL)<|bE h fun y6 h_y6 h=>Rq Y (Zr (ZgD h_y6)<|.cons (ov Y) (.aggB<|arD fun _ => Y) .nil)<|Rm Y<|Rq Y (Zg (ov Y) Y)<|Rq Y (Zg (ov Y) Y)<|Ra Y<|Ra Y<|Za<|J8 (fun j => (.inr j)) (fun memories spots copies frozen stopped last some_ power2=>⟨[(0, .ptr 0 1 0 0), (2, .int .i64 power2), (10, .int .i64 y3.1)], [some ⟨80, [[.own 3 memories.length, .own 4 spots.length, .int .i64 copies, .bool frozen, .bool stopped, .int .i64 last, .bool some_]]⟩, none, none, some ⟨59, List.map O59 memories⟩, some ⟨83, List.map R83 spots⟩]⟩) h (fun h=>?_) fun memories spots copies frozen stopped last some_ power2 h=>?_
    ·
     refine K5 0 2 10 12 14 Y<|Tr<|Rm Y<|Rl tZ_3 QK Y<|Rm Y<|Za<|Ze<|?_
     obtain ⟨r1, hl1, ho1⟩ := QP h
     refine L9 (fun memories2 spots2 copies2 frozen2 stopped2 last2 some_2 power3 i=>⟨[(0, .ptr 0 1 0 0), (2, .int .i64 power3), (10, .int .i64 y3.1), (14, .sl 5 (List.map R5 y6.1)), (59, .sl 3 (List.map R3 y4)), (60, .int .i64 (y4.length : Int)), (61, .int .i64 i)], [some ⟨80, [[.own 3 memories2.length, .own 4 spots2.length, .int .i64 copies2, .bool frozen2, .bool stopped2, .int .i64 last2, .bool some_2]]⟩, none, none, some ⟨59, List.map O59 memories2⟩, some ⟨83, List.map R83 spots2⟩]⟩) hl1 (ES [some 0, some 1, some 2, some 3, some 4] (hhp := .cons Y (ro1 (by exact tZ_80.symm)<|rlc (.own _ Y)<|rlc (.own _ Y)<|rlc (.dat Y)<|rlc (.dat Y)<|rlc (.dat Y)<|rlc (.dat Y)<|rlc (.dat Y) rln)<|.dead<|.dead<|.cons Y (roO XC)<|.cons Y (roM D83) .nil)) fun n1 memories2 spots2 copies2 frozen2 stopped2 last2 some_2 power3 i h=>?_
     unfold Xe at h
     refine Tr<|R2 ZJ Y<|Za<|Zf<|If h Y (fun h=>?_) fun h=>?_
     ·
      refine Zh<|Zf<|Ze<|K7 0 2 10 14 59 60 61 Y<|Tr<|bE h fun x h_x h=>Rq Y (Qo (ov Y) (ov Y) QK h_x)<|Rq Y (Zi (ov Y) tS3 Y)<|Ra Y<|Za<|K8 0 2 10 14 17 59 60 61 Y<|Tr<|Ra Y<|Za<|Zf<|Qm (cw := ⟨true, false, [], [], []⟩) (by kernel_rfl)<|D1 0 Zc Y<|Dq 1 Y (Zu (ov Y) Y Y)<|Dq 2 Y (Zl (ov Y) Y Y ZeY)<|D1 3 Zc Y<|D1 4 Zc Y<|D1 5 Zc Y<|Dq 6 Y (Zgo (Qt (ov Y) tZ_5) ZL<|ZcD _ _)<|D1 7 Zc Y<|Dq 8 Y (Zgo (Qt (ov Y) tZ_5) ZL<|ZcD _ _)<|bE h fun l h_l h=>Dq 9 Y (Zka (ov Y) ZL (ov Y) (ov Y) h_l)<|D1 10 Zc Y<|bE h fun y7 h_y7 h=>Do 11 Y (Zv [0, 3, 4] (Zc4 h_y7) (.cons (ov Y) (.ptr _ _ _ Y)<|.cons (ov Y) (.dat Y)<|.cons (ov Y) (.dat Y)<|.cons (ov Y) (.dat Y) .nil) (.cons Y (ro1 (by exact tZ_80.symm)<|rlc (.own _ Y)<|rlc (.own _ Y)<|rlc (.dat Y)<|rlc (.dat Y)<|rlc (.dat Y)<|rlc (.dat Y)<|rlc (.dat Y) rln)<|.cons Y (roO XC)<|.cons Y (roM D83) .nil) Y (.lent 0 (.inl Y) Y (ro1 (by exact tZ_80.symm)<|rlc (.own _<|.inr ⟨Nat.le_of_ble_eq_true Y, Y⟩)<|rlc (.own _<|.inr ⟨Nat.le_of_ble_eq_true Y, Y⟩)<|rlc (.dat Y)<|rlc (.dat Y)<|rlc (.dat Y)<|rlc (.dat Y)<|rlc (.dat Y) rln)<|.none<|.none<|.none<|.none<|.lent 3 (.inr ⟨Nat.le_of_ble_eq_true Y, Y⟩) Y (roO XC)<|.lent 4 (.inr ⟨Nat.le_of_ble_eq_true Y, Y⟩) Y (roM D83) .nil) Y Y<|Qr<|rld Y)<|D1 12 Zc Y<|Dq 13 Y (Zg (ov Y) Y)<|Dq 14 Y (Zg (ov Y) Y)<|D1 15 Qh Y<|D1 16 Qh Y<|Dd<|K8 0 2 10 14 18 59 60 61 Y<|Xa [some ⟨80, [[.own 5 y7.2.2.bank.memories.length, .own 6 y7.2.2.bank.spots.length, .int .i64 y7.2.2.copies, .bool y7.2.2.frozen, .bool y7.2.2.stopped, .int .i64 y7.2.2.last, .bool y7.2.2.some_]]⟩, none, none, none, none, some ⟨59, List.map O59 y7.2.2.bank.memories⟩, some ⟨83, List.map R83 y7.2.2.bank.spots⟩] Y<|Tr<|Rm Y<|R1 XW Y<|Za<|K8 0 2 10 14 59 60 61 81 Y<|If h Y (fun h=>?_) fun h=>?_
      ·
       refine K2 0 2 Y<|Tr<|Rm Y<|Rq Y (Zu (ov Y) Y Y)<|Rq Y (Zl (ov Y) Y Y ZkX)<|Rx Y (Zm (ov Y) (ov Y) (Zd tS4) Y Y Y (Nat.le_of_ble_eq_true Y) (Zb Y) Y)<|Za<|K1 2 Y<|Xa [some ⟨80, [[.own 5 y7.2.2.bank.memories.length, .own 6 y7.2.2.bank.spots.length, .int .i64 y7.2.2.copies, .bool y7.2.2.frozen, .bool true, .int .i64 y7.2.2.last, .bool y7.2.2.some_]]⟩, none, none, none, none, some ⟨59, List.map O59 y7.2.2.bank.memories⟩, some ⟨83, List.map R83 y7.2.2.bank.spots⟩] Y<|Tr<|Rm Y<|Ra Y<|Ra Y<|Ra Y<|Za<|?_
       replace h := lx h ▸ ho1
       obtain rfl := rt h
       exact Zn<|XY [some 0, some 1, some 2, some 5, some 6] Y (.cons (.tmp Y)<|.cons (.tmp Y)<|.cons (.tmp Y) .nil) (.cons Y (ro1 (by exact tZ_80.symm)<|rlc (.own _ Y)<|rlc (.own _ Y)<|rlc (.dat Y)<|rlc (.dat Y)<|rlc (.dat Y)<|rlc (.dat Y)<|rlc (.dat Y) rln)<|.dead<|.dead<|.cons Y (roO XC)<|.cons Y (roM D83) .nil) Y Y<|Qr<|rlc (.dat Y)<|rlc (.dat Y)<|rlc (.dat Y) rln
      ·
       exact Zh<|K7 0 2 10 14 59 60 61 Y<|Zq<|R2 ZI Y<|Rm Y<|Za<|⟨_, h, ES [some 0, some 1, some 2, some 5, some 6] (hhp := .cons Y (ro1 (by exact tZ_80.symm)<|rlc (.own _ Y)<|rlc (.own _ Y)<|rlc (.dat Y)<|rlc (.dat Y)<|rlc (.dat Y)<|rlc (.dat Y)<|rlc (.dat Y) rln)<|.dead<|.dead<|.cons Y (roO XC)<|.cons Y (roM D83) .nil)⟩
     ·
      refine ZD<|?_
      replace h := lx h ▸ ho1
      exact ⟨_, h, ES [some 0, some 1, some 2, some 3, some 4] (hhp := .cons Y (ro1 (by exact tZ_80.symm)<|rlc (.own _ Y)<|rlc (.own _ Y)<|rlc (.dat Y)<|rlc (.dat Y)<|rlc (.dat Y)<|rlc (.dat Y)<|rlc (.dat Y) rln)<|.dead<|.dead<|.cons Y (roO XC)<|.cons Y (roM D83) .nil)⟩
    ·
     replace h := elr h
     replace h := t8i h
     refine Tr<|Rm Y<|Rm Y<|Rm Y<|Rq Y (Zu (ov Y) Y Y)<|Rq Y (Zl (ov Y) Y Y ZlY)<|Rx Y (Zm (ov Y) (ov Y) (Zd tS3) Y Y Y (Nat.le_of_ble_eq_true Y) (Zb Y) Y)<|Rq Y (Zu (ov Y) Y Y)<|Rq Y (Zl (ov Y) Y Y Zl3)<|Rx Y (Zm (ov Y) (ov Y) (Zd tS4) Y Y Y (Nat.le_of_ble_eq_true Y) (Zb Y) Y)<|Za<|K1 2 Y<|Xa [some ⟨80, [[.own 3 memories.length, .own 4 spots.length, .int .i64 copies, .bool frozen, .bool stopped, .int .i64 y3.1, .bool true]]⟩, none, none, some ⟨59, List.map O59 memories⟩, some ⟨83, List.map R83 spots⟩] Y<|Tr<|Rm Y<|Ra Y<|Ra Y<|Ra Y<|Za<|?_
     obtain rfl := rt h
     exact Zn<|XY [some 0, some 1, some 2, some 3, some 4] Y (.cons (.tmp Y)<|.cons (.tmp Y)<|.cons (.tmp Y) .nil) (.cons Y (ro1 (by exact tZ_80.symm)<|rlc (.own _ Y)<|rlc (.own _ Y)<|rlc (.dat Y)<|rlc (.dat Y)<|rlc (.dat Y)<|rlc (.dat Y)<|rlc (.dat Y) rln)<|.dead<|.dead<|.cons Y (roO XC)<|.cons Y (roM D83) .nil) Y Y<|Qr<|rlc (.dat Y)<|rlc (.dat Y)<|rlc (.dat Y) rln
end Go.Proofs.YtgohgnaapbpggaaGreatDoor
