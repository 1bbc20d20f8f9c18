/- A text of the proof: a verified executor of the program form, or the contracts of the functions that the law reaches. -/
import Derived.Test.YtacmhbfmedpkhaaGreatDoorOkFe
set_option linter.all false
namespace Go.Proofs.YtacmhbfmedpkhaaGreatDoor
open Go Go.Vx
set_option maxRecDepth 10000
set_option maxHeartbeats 1000000
set_option linter.unusedVariables false
theorem Z3 {n : Int} {low : Int} {high : Int} {r : Bool} (h : Z7 n low high = some r) :
 CSpec Tryz.prog gl0 51 [.int .i64 n, .int .i64 low, .int .i64 high] (.bool r) := by
 unfold Z7 at h
 replace h := ZE h
 refine So Tryz.func51 Y fun w0 A=>Tr<|Ra Y<|Za<|Tr<|Rm Y<|Rm Y<|R2 Zw Y<|Rm Y<|Rq Y (.guarded ((decide (n < low)) == false) Y Y Y Y fun h => Zm<|ov Y)<|Rq Y (.guarded ((decide (n < low)) == false) Y Y Y Y fun h => Zm<|ov Y)<|Rq Y (.guarded ((decide (n < low)) == false) Y Y Y Y fun h => Qj (ow Y h)<|ow Y h)<|Rq Y (QB (ov Y) fun hp=>ow Y<|gF hp)<|Ra Y<|Za<|?_
 obtain rfl := rt h
 exact Zi (Zq Y (.one<|rb Y))
theorem Zec {mark : Int} {r : Bool} (h : Zar mark = some r) :
 CSpec Tryz.prog gl0 52 [.int .i64 mark] (.bool r) := by
 unfold Zar at h
 replace h := ZE h
 refine So Tryz.func52 Y fun w0 A=>Tr<|Ra Y<|Za<|Tr<|Rm Y<|R2 JP Y<|Ra Y<|Za<|?_
 obtain rfl := rt h
 exact Zi (Zq Y (.one<|rb Y))
theorem Zf7 {s : api_Sample} {r : Int} (h : JJ s = some r) :
 CSpec Tryz.prog gl0 80 [.agg [.int .i64 s.At, .int .i64 s.N, .int .i64 s.Mark]] (.int .i64 r) := by
 unfold JJ at h
 replace h := ZE h
 refine So Tryz.func80 Y fun w0 A=>Tr<|Rq Y (Zv (cva<|ov Y) Y tZ_59 Y)<|Ra Y<|Za<|Zj<|K1 1 Y<|Tr<|Rq Y (Zc (ov Y) Zaz)<|Rq Y (Zb (ov Y) tS3 Y)<|bE h fun y h_y h=>Rq Y (Zl (Z3 h_y)<|.cons (ov Y) (.b Y)<|.cons (ov Y) (.b Y)<|.cons (ov Y) (.b Y) .nil)<|Rm Y<|Rq Y (.guarded (y == false) Y Y Y Y fun h => Zc (ov Y) Zbg)<|Rq Y (.guarded (y == false) Y Y Y Y fun h => Zb (ow Y h) tS3 Y)<|bE h fun y2 h_y2 h=>Rq Y (.guarded (y == false) Y Y Y Y fun h => Zl (Z3<|gdT h_y2 h)<|.cons (ow Y h) (.b Y)<|.cons (ov Y) (.b Y)<|.cons (ov Y) (.b Y) .nil)<|Rq Y (QB (ov Y) fun hp=>ow Y<|gF hp)<|Rm Y<|Rq Y (.guarded ((y || y2) == false) Y Y Y Y fun h => Zc (ov Y) Qy)<|Rq Y (.guarded ((y || y2) == false) Y Y Y Y fun h => Zb (ow Y h) tS3 Y)<|bE h fun y3 h_y3 h=>Rq Y (.guarded ((y || y2) == false) Y Y Y Y fun h => Zl (Z3<|gdT h_y3 h)<|.cons (ow Y h) (.b Y)<|.cons (ov Y) (.b Y)<|.cons (ov Y) (.b Y) .nil)<|Rq Y (QB (ov Y) fun hp=>ow Y<|gF hp)<|Za<|K2 1 15 Y<|If h Y (fun h=>?_) fun h=>?_
 ·
  refine K0<|Tr<|Ra Y<|Za<|?_
  obtain rfl := rt h
  exact Zi (Zq Y (.one<|rb Y))
 ·
  refine Ze<|Zj<|K1 1 Y<|Tr<|Rq Y (Zc (ov Y) Zbg)<|Rq Y (Zb (ov Y) tS3 Y)<|R2 QC Y<|Rm Y<|Rq Y (.guarded ((!decide (s.N = 0)) == true) Y Y Y Y fun h => Zc (ov Y) Qy)<|Rq Y (.guarded ((!decide (s.N = 0)) == true) Y Y Y Y fun h => Zb (ow Y h) tS3 Y)<|bE h fun y4 h_y4 h=>Rq Y (.guarded ((!decide (s.N = 0)) == true) Y Y Y Y fun h => Zl (Zec<|gdT h_y4 h)<|.cons (ow Y h) (.b Y) .nil)<|Rq Y (.guarded ((!decide (s.N = 0)) == true) Y Y Y Y fun h => Z0<|ow Y h)<|Rq Y (Ql (ov Y) fun hp=>ow Y<|gT hp)<|Za<|K1 24 Y<|If h Y (fun h=>?_) fun h=>?_
  ·
   refine K0<|Tr<|Ra Y<|Za<|?_
   obtain rfl := rt h
   exact Zi (Zq Y (.one<|rb Y))
  ·
   refine Ze<|K0<|Tr<|Ra Y<|Za<|?_
   obtain rfl := rt h
   exact Zi (Zq Y (.one<|rb Y))
theorem ZjK {s : api_Series} {r : Int × Int} (h : ZdL s = some r) :
 CSpec Tryz.prog gl0 50 [.agg [.int .i64 s.Den, .sl 59 (List.map R59 s.Samples)]] (.tuple [.int .i64 r.1, .int .i64 r.2]) := by
 unfold ZdL at h
 replace h := ZE h
 refine So Tryz.func50 Y fun w0 A=>Tr<|Rq Y (Zv (cva<|ov Y) Y tZ_31 Y)<|Ra Y<|Ra Y<|Za<|Zj<|K1 1 Y<|Tr<|Rq Y (Zc (ov Y) ZiB)<|Rq Y (Zb (ov Y) tS3 Y)<|bE h fun y h_y h=>Rq Y (Zl (Z3 h_y)<|.cons (ov Y) (.b Y)<|.cons (ov Y) (.b Y)<|.cons (ov Y) (.b Y) .nil)<|Za<|K2 1 8 Y<|If h Y (fun h=>?_) fun h=>?_
 ·
  refine K0<|Tr<|Ra Y<|Ra Y<|Za<|?_
  obtain rfl := rt h
  exact Zi (Zq Y (.two (rb Y)<|rb Y))
 ·
  refine Ze<|Zj<|K1 1 Y<|Tr<|Rq Y (Zc (ov Y) Qb)<|Rq Y (Zb (ov Y) X6 Y)<|Rl tZ_59 QV Y<|R2 Qj Y<|Za<|K2 1 12 Y<|If h Y (fun h=>?_) fun h=>?_
  ·
   refine K0<|Tr<|Ra Y<|Ra Y<|Za<|?_
   obtain rfl := rt h
   exact Zi (Zq Y (.two (rb Y)<|rb Y))
  ·
   refine Ze<|J0 (fun j => (.inr j)) ⟨[], []⟩ h (fun h=>?_) fun h=>?_
   ·
    refine K1 1 Y<|Tr<|Ra Y<|Za<|Zf<|?_
    obtain ⟨r1, hl1, ho1⟩ := Z1 h
    refine L1 (fun i=>⟨[(1, .rp [.int .i64 s.Den, .sl 59 (List.map R59 s.Samples)] 0), (4, .int .i64 i)], []⟩) hl1 (ES []) fun n1 i h=>?_
    unfold Zbo at h
    refine Zj<|Tr<|Rm Y<|Rq Y (Zc (ov Y) Qb)<|Rq Y (Zb (ov Y) X6 Y)<|Rl tZ_59 QV Y<|R2 Zw Y<|Za<|K3 1 4 17 Y<|If h Y (fun h=>?_) fun h=>?_
    ·
     refine Ze<|Zj<|Zf<|Zj<|K2 1 4 Y<|Tr<|Rq Y (Zc (ov Y) Qb)<|Rq Y (Zb (ov Y) X6 Y)<|Rm Y<|bE h fun x h_x h=>Rq Y (Zx (ov Y) (ov Y) QV h_x)<|Rq Y (Zh (ov Y) Xn Y Y)<|bE h fun y2 h_y2 h=>Rq Y (Zl (Zf7 h_y2)<|.cons (ov Y) (.aggB Y) .nil)<|Ra Y<|Za<|K3 1 4 5 Y<|Tr<|Rm Y<|R2 QC Y<|Za<|K4 1 4 5 27 Y<|If h Y (fun h=>?_) fun h=>?_
     ·
      refine K2 4 5 Y<|Tr<|Rm Y<|Rm Y<|Ra Y<|Ra Y<|Za<|?_
      replace h := lx h ▸ ho1
      obtain rfl := rt h
      exact Zi (Zq Y (.two (rb Y)<|rb Y))
     ·
      refine Ze<|K2 1 4 Y<|Td md0<|D1 0 Zm Y<|D2 1 Qj Y<|D1 2 Zm Y<|Dq 3 Y (.guarded ((decide (0 < i)) == true) Y Y Y Y fun h => Zc (ov Y) Qb)<|Dq 4 Y (.guarded ((decide (0 < i)) == true) Y Y Y Y fun h => Zb (ow Y h) X6 Y)<|Dq 5 Y (.guarded ((decide (0 < i)) == true) Y Y Y Y fun h => Zm<|ov Y)<|bE h fun x2 h_x2 h=>Dq 6 Y (.guarded ((decide (0 < i)) == true) Y Y Y Y fun h => Zx (ow Y h) (ow Y h) QV<|gdT h_x2 h)<|Dq 7 Y (.guarded ((decide (0 < i)) == true) Y Y Y Y fun h => Zc (ow Y h) Zaz)<|Dq 8 Y (.guarded ((decide (0 < i)) == true) Y Y Y Y fun h => Zb (ow Y h) tS3 Y)<|Dq 9 Y (.guarded ((decide (0 < i)) == true) Y Y Y Y fun h => Zc (ov Y) Qb)<|Dq 10 Y (.guarded ((decide (0 < i)) == true) Y Y Y Y fun h => Zb (ow Y h) X6 Y)<|Dq 11 Y (.guarded ((decide (0 < i)) == true) Y Y Y Y fun h => Zm<|ov Y)<|Dq 12 Y (.guarded ((decide (0 < i)) == true) Y Y Y Y fun h => ZfJ (ow Y h) (ov Y) Y)<|bE h fun x3 h_x3 h=>Dq 13 Y (.guarded ((decide (0 < i)) == true) Y Y Y Y fun h => Zx (ow Y h) (ow Y h) QV<|gdT h_x3 h)<|Dq 14 Y (.guarded ((decide (0 < i)) == true) Y Y Y Y fun h => Zc (ow Y h) Zaz)<|Dq 15 Y (.guarded ((decide (0 < i)) == true) Y Y Y Y fun h => Zb (ow Y h) tS3 Y)<|Dq 16 Y (.guarded ((decide (0 < i)) == true) Y Y Y Y fun h => ZaZ (ow Y h)<|ow Y h)<|Dq 17 Y (Ql (ov Y) fun hp=>ow Y<|gT hp)<|Dd<|K3 1 4 47 Y<|If h Y (fun h=>?_) fun h=>?_
      ·
       refine K1 4 Y<|Tr<|Rm Y<|Ra Y<|Ra Y<|Za<|?_
       replace h := lx h ▸ ho1
       obtain rfl := rt h
       exact Zi (Zq Y (.two (rb Y)<|rb Y))
      ·
       exact Ze<|K2 1 4 Y<|Zs<|Rm Y<|R2 ZB Y<|Ra Y<|Za<|⟨_, h, ES []⟩
    ·
     refine Zu<|?_
     replace h := lx h ▸ ho1
     exact ⟨_, h, ES []⟩
   ·
    replace h := elr h
    replace h := t0i h
    refine Tr<|Ra Y<|Ra Y<|Za<|?_
    obtain rfl := rt h
    exact Zi (Zq Y (.two (rb Y)<|rb Y))
theorem ZjG {s : api_Series} {r : Int} (h : ZdJ s = some r) :
 CSpec Tryz.prog gl0 27 [.agg [.int .i64 s.Den, .sl 59 (List.map R59 s.Samples)]] (.int .i64 r) := by
 unfold ZdJ at h
 replace h := ZE h
 refine So Tryz.func27 Y fun w0 A=>Tr<|Rq Y (Zv (cva<|ov Y) Y tZ_31 Y)<|Ra Y<|Za<|K1 1 Y<|Tr<|Rq Y (Zh (ov Y) ZY Y Y)<|bE h fun y h_y h=>Rq Y (Zl (ZjK h_y)<|.cons (ov Y) (.aggB Y) .nil)<|Rm Y<|Rq Y (Zr (ov Y) Y)<|Rq Y (Zr (ov Y) Y)<|Ra Y<|Ra Y<|Za<|K1 4 Y<|Tr<|Rm Y<|Ra Y<|Za<|?_
 obtain rfl := rt h
 exact Zi (Zq Y (.one<|rb Y))
theorem Zd8 {c_ : api_Calibration} {r : Int} (h : Q6 c_ = some r) :
 CSpec Tryz.prog gl0 28 [.agg [.int .i64 c_.Den, .sl 101 (List.map Jw c_.Lines), .int .i64 c_.Low, .int .i64 c_.High]] (.int .i64 r) := by
 unfold Q6 at h
 replace h := ZE h
 refine So Tryz.func28 Y fun w0 A=>Tr<|Rq Y (Zv (cva<|ov Y) Y tZ_28 Y)<|Ra Y<|Za<|Zj<|K1 1 Y<|Tr<|Rq Y (Zc (ov Y) Zgx)<|Rq Y (Zb (ov Y) tS3 Y)<|bE h fun y h_y h=>Rq Y (Zl (Z3 h_y)<|.cons (ov Y) (.b Y)<|.cons (ov Y) (.b Y)<|.cons (ov Y) (.b Y) .nil)<|Za<|K2 1 9 Y<|If h Y (fun h=>?_) fun h=>?_
 ·
  refine K0<|Tr<|Ra Y<|Za<|?_
  obtain rfl := rt h
  exact Zi (Zq Y (.one<|rb Y))
 ·
  refine Ze<|Zj<|K1 1 Y<|Tr<|Rq Y (Zc (ov Y) ZbK)<|Rq Y (Zb (ov Y) Zgy Y)<|Rl tZ_101 ZeW Y<|R2 Z4 Y<|Za<|K2 1 13 Y<|If h Y (fun h=>?_) fun h=>?_
  ·
   refine K0<|Tr<|Ra Y<|Za<|?_
   obtain rfl := rt h
   exact Zi (Zq Y (.one<|rb Y))
  ·
   refine Ze<|Zj<|K1 1 Y<|Tr<|Rq Y (Zc (ov Y) ZbK)<|Rq Y (Zb (ov Y) Zgy Y)<|Rl tZ_101 ZeW Y<|R2 Qj Y<|Za<|K2 1 17 Y<|If h Y (fun h=>?_) fun h=>?_
   ·
    refine K0<|Tr<|Ra Y<|Za<|?_
    obtain rfl := rt h
    exact Zi (Zq Y (.one<|rb Y))
   ·
    refine Ze<|J0 (fun j => (.inr j)) ⟨[(1, .rp [.int .i64 c_.Den, .sl 101 (List.map Jw c_.Lines), .int .i64 c_.Low, .int .i64 c_.High] 0)], []⟩ h (fun h=>?_) fun h=>?_
    ·
     refine K1 1 Y<|Tr<|Ra Y<|Za<|Zf<|?_
     obtain ⟨r1, hl1, ho1⟩ := Z1 h
     refine L1 (fun i=>⟨[(1, .rp [.int .i64 c_.Den, .sl 101 (List.map Jw c_.Lines), .int .i64 c_.Low, .int .i64 c_.High] 0), (3, .int .i64 i)], []⟩) hl1 (ES []) fun n1 i h=>?_
     unfold Xh at h
     refine Zj<|Tr<|Rm Y<|Rq Y (Zc (ov Y) ZbK)<|Rq Y (Zb (ov Y) Zgy Y)<|Rl tZ_101 ZeW Y<|R2 Zw Y<|Za<|K3 1 3 22 Y<|If h Y (fun h=>?_) fun h=>?_
     ·
      refine Ze<|Zj<|Zf<|K2 1 3 Y<|Tr<|Rq Y (Zc (ov Y) ZbK)<|Rq Y (Zb (ov Y) Zgy Y)<|Rm Y<|bE h fun x h_x h=>Rq Y (Zx (ov Y) (ov Y) ZeW h_x)<|Rq Y (Zh (ov Y) ZdO Y Y)<|Rx Y (Zt (row := [_, _, _, _]) 0 Y ZjO Y tZ_101)<|Rx Y (Zo (ov Y) (ov Y) (Zk ZdO Y) Y Y Y (Nat.le_of_ble_eq_true Y) (Zd Y) Y)<|Za<|Zj<|K3 1 3 4 Y<|Tr<|Rq Y (Zg (ov Y) Y Y ZcH)<|Rq Y (Zn (ov Y) Y Y Y tS3 Y)<|bE h fun y2 h_y2 h=>Rq Y (Zl (Z3 h_y2)<|.cons (ov Y) (.b Y)<|.cons (ov Y) (.b Y)<|.cons (ov Y) (.b Y) .nil)<|Rm Y<|Rq Y (.guarded (y2 == false) Y Y Y Y fun h => Zg (ov Y) Y Y ZcL)<|Rq Y (.guarded (y2 == false) Y Y Y Y fun h => Zn (ow Y h) Y Y Y tS3 Y)<|bE h fun y3 h_y3 h=>Rq Y (.guarded (y2 == false) Y Y Y Y fun h => Zl (Z3<|gdT h_y3 h)<|.cons (ow Y h) (.b Y)<|.cons (ov Y) (.b Y)<|.cons (ov Y) (.b Y) .nil)<|Rq Y (QB (ov Y) fun hp=>ow Y<|gF hp)<|Rm Y<|Rq Y (.guarded ((y2 || y3) == false) Y Y Y Y fun h => Zg (ov Y) Y Y ZcH)<|Rq Y (.guarded ((y2 || y3) == false) Y Y Y Y fun h => Zn (ow Y h) Y Y Y tS3 Y)<|Rq Y (.guarded ((y2 || y3) == false) Y Y Y Y fun h => Zg (ov Y) Y Y ZcL)<|Rq Y (.guarded ((y2 || y3) == false) Y Y Y Y fun h => Zn (ow Y h) Y Y Y tS3 Y)<|Rq Y (.guarded ((y2 || y3) == false) Y Y Y Y fun h => Qj (ow Y h)<|ow Y h)<|Rq Y (QB (ov Y) fun hp=>ow Y<|gF hp)<|Rm Y<|Rq Y (.guarded (((y2 || y3) || (decide (x.To < x.From))) == false) Y Y Y Y fun h => Zg (ov Y) Y Y ZfT)<|Rq Y (.guarded (((y2 || y3) || (decide (x.To < x.From))) == false) Y Y Y Y fun h => Zn (ow Y h) Y Y Y tS3 Y)<|bE h fun y4 h_y4 h=>Rq Y (.guarded (((y2 || y3) || (decide (x.To < x.From))) == false) Y Y Y Y fun h => Zl (Z3<|gdT h_y4 h)<|.cons (ow Y h) (.b Y)<|.cons (ov Y) (.b Y)<|.cons (ov Y) (.b Y) .nil)<|Rq Y (QB (ov Y) fun hp=>ow Y<|gF hp)<|Rm Y<|Rq Y (.guarded ((((y2 || y3) || (decide (x.To < x.From))) || y4) == false) Y Y Y Y fun h => Zg (ov Y) Y Y ZfY)<|Rq Y (.guarded ((((y2 || y3) || (decide (x.To < x.From))) || y4) == false) Y Y Y Y fun h => Zn (ow Y h) Y Y Y tS3 Y)<|bE h fun y5 h_y5 h=>Rq Y (.guarded ((((y2 || y3) || (decide (x.To < x.From))) || y4) == false) Y Y Y Y fun h => Zl (Z3<|gdT h_y5 h)<|.cons (ow Y h) (.b Y)<|.cons (ov Y) (.b Y)<|.cons (ov Y) (.b Y) .nil)<|Rq Y (QB (ov Y) fun hp=>ow Y<|gF hp)<|Za<|K4 1 3 4 54 Y<|If h Y (fun h=>?_) fun h=>?_
      ·
       refine K0<|Tr<|Ra Y<|Za<|?_
       replace h := lx h ▸ ho1
       obtain rfl := rt h
       exact Zi (Zq Y (.one<|rb Y))
      ·
       refine Ze<|K3 1 3 4 Y<|Td md0<|D1 0 Zm Y<|D2 1 Qj Y<|D1 2 Zm Y<|Dq 3 Y (.guarded ((decide (0 < i)) == true) Y Y Y Y fun h => Zg (ov Y) Y Y ZcH)<|Dq 4 Y (.guarded ((decide (0 < i)) == true) Y Y Y Y fun h => Zn (ow Y h) Y Y Y tS3 Y)<|Dq 5 Y (.guarded ((decide (0 < i)) == true) Y Y Y Y fun h => Zc (ov Y) ZbK)<|Dq 6 Y (.guarded ((decide (0 < i)) == true) Y Y Y Y fun h => Zb (ow Y h) Zgy Y)<|Dq 7 Y (.guarded ((decide (0 < i)) == true) Y Y Y Y fun h => Zm<|ov Y)<|Dq 8 Y (.guarded ((decide (0 < i)) == true) Y Y Y Y fun h => ZfJ (ow Y h) (ov Y) Y)<|bE h fun x2 h_x2 h=>Dq 9 Y (.guarded ((decide (0 < i)) == true) Y Y Y Y fun h => Zx (ow Y h) (ow Y h) ZeW<|gdT h_x2 h)<|Dq 10 Y (.guarded ((decide (0 < i)) == true) Y Y Y Y fun h => Zc (ow Y h) ZcL)<|Dq 11 Y (.guarded ((decide (0 < i)) == true) Y Y Y Y fun h => Zb (ow Y h) tS3 Y)<|Dq 12 Y (.guarded ((decide (0 < i)) == true) Y Y Y Y fun h => ZaZ (ow Y h)<|ow Y h)<|Dq 13 Y (Ql (ov Y) fun hp=>ow Y<|gT hp)<|Dd<|K3 1 3 68 Y<|If h Y (fun h=>?_) fun h=>?_
       ·
        refine K0<|Tr<|Ra Y<|Za<|?_
        replace h := lx h ▸ ho1
        obtain rfl := rt h
        exact Zi (Zq Y (.one<|rb Y))
       ·
        exact Ze<|K2 1 3 Y<|Zs<|Rm Y<|R2 ZB Y<|Ra Y<|Za<|⟨_, h, ES []⟩
     ·
      refine Zu<|?_
      replace h := lx h ▸ ho1
      exact ⟨_, h, ES []⟩
    ·
     replace h := elr h
     replace h := t0i h
     refine J0 (fun j => (.inr j)) ⟨[(1, .rp [.int .i64 c_.Den, .sl 101 (List.map Jw c_.Lines), .int .i64 c_.Low, .int .i64 c_.High] 0)], []⟩ h (fun h=>?_) fun h=>?_
     ·
      refine Tr<|Ra Y<|Za<|Zf<|?_
      obtain ⟨r2, hl2, ho2⟩ := Z1 h
      refine L1 (fun i2=>⟨[(1, .rp [.int .i64 c_.Den, .sl 101 (List.map Jw c_.Lines), .int .i64 c_.Low, .int .i64 c_.High] 0), (5, .int .i64 i2)], []⟩) hl2 (ES []) fun n2 i2 h=>?_
      unfold Xd at h
      refine Zj<|Tr<|Rm Y<|Rq Y (Zc (ov Y) ZbK)<|Rq Y (Zb (ov Y) Zgy Y)<|Rl tZ_101 ZeW Y<|R2 Zw Y<|Za<|K3 1 5 73 Y<|If h Y (fun h=>?_) fun h=>?_
      ·
       refine Ze<|Zj<|Zf<|K2 1 5 Y<|Tr<|Rq Y (Zc (ov Y) ZbK)<|Rq Y (Zb (ov Y) Zgy Y)<|Rm Y<|bE h fun x3 h_x3 h=>Rq Y (Zx (ov Y) (ov Y) ZeW h_x3)<|Rq Y (Zh (ov Y) ZdO Y Y)<|Rx Y (Zt (row := [_, _, _, _]) 0 Y ZjO Y tZ_101)<|Rx Y (Zo (ov Y) (ov Y) (Zk ZdO Y) Y Y Y (Nat.le_of_ble_eq_true Y) (Zd Y) Y)<|Za<|K3 1 5 6 Y<|Tr<|Rq Y (Zg (ov Y) Y Y ZfT)<|Rq Y (Zn (ov Y) Y Y Y tS3 Y)<|Rq Y (Zg (ov Y) Y Y ZcH)<|Rq Y (Zn (ov Y) Y Y Y tS3 Y)<|R2 Zck Y<|Rq Y (Zg (ov Y) Y Y ZfY)<|Rq Y (Zn (ov Y) Y Y Y tS3 Y)<|R2 ZB Y<|bE h fun y6 h_y6 h=>Rq Y (Zl (Z3 h_y6)<|.cons (ov Y) (.b Y)<|.cons (ov Y) (.b Y)<|.cons (ov Y) (.b Y) .nil)<|Rm Y<|Rq Y (.guarded (y6 == false) Y Y Y Y fun h => Zg (ov Y) Y Y ZfT)<|Rq Y (.guarded (y6 == false) Y Y Y Y fun h => Zn (ow Y h) Y Y Y tS3 Y)<|Rq Y (.guarded (y6 == false) Y Y Y Y fun h => Zg (ov Y) Y Y ZcL)<|Rq Y (.guarded (y6 == false) Y Y Y Y fun h => Zn (ow Y h) Y Y Y tS3 Y)<|Rq Y (.guarded (y6 == false) Y Y Y Y fun h => Zm7 (ow Y h) (ow Y h) Y)<|Rq Y (.guarded (y6 == false) Y Y Y Y fun h => Zg (ov Y) Y Y ZfY)<|Rq Y (.guarded (y6 == false) Y Y Y Y fun h => Zn (ow Y h) Y Y Y tS3 Y)<|Rq Y (.guarded (y6 == false) Y Y Y Y fun h => Zjq (ow Y h) (ow Y h) Y)<|bE h fun y7 h_y7 h=>Rq Y (.guarded (y6 == false) Y Y Y Y fun h => Zl (Z3<|gdT h_y7 h)<|.cons (ow Y h) (.b Y)<|.cons (ov Y) (.b Y)<|.cons (ov Y) (.b Y) .nil)<|Rq Y (QB (ov Y) fun hp=>ow Y<|gF hp)<|Za<|K3 1 5 100 Y<|If h Y (fun h=>?_) fun h=>?_
       ·
        refine K0<|Tr<|Ra Y<|Za<|?_
        replace h := lx h ▸ ho2
        obtain rfl := rt h
        exact Zi (Zq Y (.one<|rb Y))
       ·
        exact Ze<|K2 1 5 Y<|Zs<|Rm Y<|R2 ZB Y<|Ra Y<|Za<|⟨_, h, ES []⟩
      ·
       refine Zu<|?_
       replace h := lx h ▸ ho2
       exact ⟨_, h, ES []⟩
     ·
      replace h := elr h
      replace h := t0i h
      refine Zj<|Tr<|Rq Y (Zc (ov Y) Zhw)<|Rq Y (Zb (ov Y) tS3 Y)<|bE h fun y8 h_y8 h=>Rq Y (Zl (Z3 h_y8)<|.cons (ov Y) (.b Y)<|.cons (ov Y) (.b Y)<|.cons (ov Y) (.b Y) .nil)<|Rm Y<|Rq Y (.guarded (y8 == false) Y Y Y Y fun h => Zc (ov Y) ZhK)<|Rq Y (.guarded (y8 == false) Y Y Y Y fun h => Zb (ow Y h) tS3 Y)<|bE h fun y9 h_y9 h=>Rq Y (.guarded (y8 == false) Y Y Y Y fun h => Zl (Z3<|gdT h_y9 h)<|.cons (ow Y h) (.b Y)<|.cons (ov Y) (.b Y)<|.cons (ov Y) (.b Y) .nil)<|Rq Y (QB (ov Y) fun hp=>ow Y<|gF hp)<|Rm Y<|Rq Y (.guarded ((y8 || y9) == false) Y Y Y Y fun h => Zc (ov Y) Zhw)<|Rq Y (.guarded ((y8 || y9) == false) Y Y Y Y fun h => Zb (ow Y h) tS3 Y)<|Rq Y (.guarded ((y8 || y9) == false) Y Y Y Y fun h => Zc (ov Y) ZhK)<|Rq Y (.guarded ((y8 || y9) == false) Y Y Y Y fun h => Zb (ow Y h) tS3 Y)<|Rq Y (.guarded ((y8 || y9) == false) Y Y Y Y fun h => Qj (ow Y h)<|ow Y h)<|Rq Y (QB (ov Y) fun hp=>ow Y<|gF hp)<|Za<|K1 115 Y<|If h Y (fun h=>?_) fun h=>?_
      ·
       refine K0<|Tr<|Ra Y<|Za<|?_
       obtain rfl := rt h
       exact Zi (Zq Y (.one<|rb Y))
      ·
       refine Ze<|K0<|Tr<|Ra Y<|Za<|?_
       obtain rfl := rt h
       exact Zi (Zq Y (.one<|rb Y))
theorem Zjv {c_ : api_Calibration} {v : Int} {r : Int × Bool} (h : ZcD c_ v = some r) :
 CSpec Tryz.prog gl0 53 [.agg [.int .i64 c_.Den, .sl 101 (List.map Jw c_.Lines), .int .i64 c_.Low, .int .i64 c_.High], .int .i64 v] (.tuple [.int .i64 r.1, .bool r.2]) := by
 unfold ZcD at h
 replace h := ZE h
 refine So Tryz.func53 Y fun w0 A=>Tr<|Rq Y (Zv (cva<|ov Y) Y tZ_28 Y)<|Ra Y<|Ra Y<|Za<|J0 (fun j => (.inr j)) ⟨[], []⟩ h (fun h=>?_) fun h=>?_
 ·
  refine K2 1 2 Y<|Tr<|Ra Y<|Za<|Zf<|?_
  obtain ⟨r1, hl1, ho1⟩ := Z1 h
  refine L1 (fun i=>⟨[(1, .int .i64 v), (2, .rp [.int .i64 c_.Den, .sl 101 (List.map Jw c_.Lines), .int .i64 c_.Low, .int .i64 c_.High] 0), (6, .int .i64 i)], []⟩) hl1 (ES []) fun n1 i h=>?_
  unfold Zbp at h
  refine Zj<|Tr<|Rm Y<|Rq Y (Zc (ov Y) ZbK)<|Rq Y (Zb (ov Y) Zgy Y)<|Rl tZ_101 ZeW Y<|R2 Zw Y<|Za<|K4 1 2 6 13 Y<|If h Y (fun h=>?_) fun h=>?_
  ·
   refine Ze<|Zj<|Zf<|K3 1 2 6 Y<|Tr<|Rq Y (Zc (ov Y) ZbK)<|Rq Y (Zb (ov Y) Zgy Y)<|Rm Y<|bE h fun x h_x h=>Rq Y (Zx (ov Y) (ov Y) ZeW h_x)<|Rq Y (Zh (ov Y) ZdO Y Y)<|Rx Y (Zt (row := [_, _, _, _]) 0 Y ZjO Y tZ_101)<|Rx Y (Zo (ov Y) (ov Y) (Zk ZdO Y) Y Y Y (Nat.le_of_ble_eq_true Y) (Zd Y) Y)<|Za<|K4 1 2 6 7 Y<|Tr<|Rm Y<|Rq Y (Zg (ov Y) Y Y ZcH)<|Rq Y (Zn (ov Y) Y Y Y tS3 Y)<|R2 JP Y<|Rm Y<|Rq Y (.guarded ((decide (x.From ≤ v)) == true) Y Y Y Y fun h => Zm<|ov Y)<|Rq Y (.guarded ((decide (x.From ≤ v)) == true) Y Y Y Y fun h => Zg (ov Y) Y Y ZcL)<|Rq Y (.guarded ((decide (x.From ≤ v)) == true) Y Y Y Y fun h => Zn (ow Y h) Y Y Y tS3 Y)<|Rq Y (.guarded ((decide (x.From ≤ v)) == true) Y Y Y Y fun h => ZaZ (ow Y h)<|ow Y h)<|Rq Y (Ql (ov Y) fun hp=>ow Y<|gT hp)<|Za<|K5 1 2 6 7 30 Y<|If h Y (fun h=>?_) fun h=>?_
   ·
    refine K3 1 2 7 Y<|Tr<|Rq Y (Zg (ov Y) Y Y ZfT)<|Rq Y (Zn (ov Y) Y Y Y tS3 Y)<|Rm Y<|R2 Zck Y<|Rq Y (Zg (ov Y) Y Y ZfY)<|Rq Y (Zn (ov Y) Y Y Y tS3 Y)<|R2 ZB Y<|Ra Y<|Za<|Zj<|K2 2 8 Y<|Tr<|Rm Y<|Rq Y (Zc (ov Y) Zhw)<|Rq Y (Zb (ov Y) tS3 Y)<|Rq Y (Zc (ov Y) ZhK)<|Rq Y (Zb (ov Y) tS3 Y)<|bE h fun y h_y h=>Rq Y (Zl (Z3 h_y)<|.cons (ov Y) (.b Y)<|.cons (ov Y) (.b Y)<|.cons (ov Y) (.b Y) .nil)<|Za<|K2 8 43 Y<|If h Y (fun h=>?_) fun h=>?_
    ·
     refine K0<|Tr<|Ra Y<|Ra Y<|Za<|?_
     replace h := lx h ▸ ho1
     obtain rfl := rt h
     exact Zi (Zq Y (.two (rb Y)<|rb Y))
    ·
     refine Ze<|K1 8 Y<|Tr<|Rm Y<|Ra Y<|Ra Y<|Za<|?_
     replace h := lx h ▸ ho1
     obtain rfl := rt h
     exact Zi (Zq Y (.two (rb Y)<|rb Y))
   ·
    exact Ze<|K3 1 2 6 Y<|Zs<|Rm Y<|R2 ZB Y<|Ra Y<|Za<|⟨_, h, ES []⟩
  ·
   refine Zu<|?_
   replace h := lx h ▸ ho1
   exact ⟨_, h, ES []⟩
 ·
  replace h := elr h
  replace h := t0i h
  refine Tr<|Ra Y<|Ra Y<|Za<|?_
  obtain rfl := rt h
  exact Zi (Zq Y (.two (rb Y)<|rb Y))
theorem ZjL {s : api_Series} {c_ : api_Calibration} {r : api_Series} (h : ZeI s c_ = some r) :
 CSpec Tryz.prog gl0 29 [.agg [.int .i64 s.Den, .sl 59 (List.map R59 s.Samples)], .agg [.int .i64 c_.Den, .sl 101 (List.map Jw c_.Lines), .int .i64 c_.Low, .int .i64 c_.High]] (.agg [.int .i64 r.Den, .sl 59 (List.map R59 r.Samples)]) := by
 unfold ZeI at h
 replace h := ZE h
 refine So Tryz.func29 Y fun w0 A=>Tr<|Rq Y (Zv (cva<|ov Y) Y tZ_31 Y)<|Rq Y (Zv (cva<|ov Y) Y tZ_28 Y)<|Rx Y (Zt (row := [_, _]) 0 Y X7 Y tZ_31)<|Za<|K3 2 3 4 Y<|Tr<|Rq Y (Zc (ov Y) Zgx)<|Rq Y (Zb (ov Y) tS3 Y)<|Rq Y (ZA (ys := [_, _]) Jz JB X7 (.cons (cvs (ov Y)<|Zp Y) .nil) Y)<|Rx Y (Zt (row := [_, _]) 1 Y X7 Y tZ_31)<|Rx Y (Zo (ov Y) (ov Y) (Zk ZY Y) Y Y Y (Nat.le_of_ble_eq_true Y) (Zd Y) Y)<|Za<|I1 (fun Samples=>⟨[(4, .ptr 0 1 0 0), (5, .ptr 1 1 0 0)], [some ⟨31, [[.int .i64 0, .nils]]⟩, some ⟨31, [[.int .i64 c_.Den, .own 2 Samples.length]]⟩, some ⟨59, List.map R59 Samples⟩]⟩) h (fun h=>?_) fun Samples h=>?_
 ·
  refine K4 2 3 4 5 Y<|Tr<|Ra Y<|Za<|Zf<|?_
  obtain ⟨r1, hl1, ho1⟩ := Z1 h
  refine L2 (fun Samples2 i=>⟨[(2, .rp [.int .i64 s.Den, .sl 59 (List.map R59 s.Samples)] 0), (3, .rp [.int .i64 c_.Den, .sl 101 (List.map Jw c_.Lines), .int .i64 c_.Low, .int .i64 c_.High] 0), (4, .ptr 0 1 0 0), (5, .ptr 1 1 0 0), (6, .int .i64 i)], [some ⟨31, [[.int .i64 0, .nils]]⟩, some ⟨31, [[.int .i64 c_.Den, .own 2 Samples2.length]]⟩, some ⟨59, List.map R59 Samples2⟩]⟩) hl1 (ES [some 0, some 1, none]) fun n1 Samples2 i h=>?_
  unfold Zat at h
  refine Zj<|Tr<|Rm Y<|Rq Y (Zc (ov Y) Qb)<|Rq Y (Zb (ov Y) X6 Y)<|Rl tZ_59 QV Y<|R2 Zw Y<|Za<|K6 2 3 4 5 6 17 Y<|If h Y (fun h=>?_) fun h=>?_
  ·
   refine Ze<|Zj<|Zf<|K5 2 3 4 5 6 Y<|Tr<|Rq Y (Zc (ov Y) Qb)<|Rq Y (Zb (ov Y) X6 Y)<|Rm Y<|bE h fun x h_x h=>Rq Y (Zx (ov Y) (ov Y) QV h_x)<|Rq Y (Zh (ov Y) Xn Y Y)<|Rx Y (Zt (row := [_, _, _]) 3 Y Zbi Y tZ_59)<|Rx Y (Zo (ov Y) (ov Y) (Zk Xn Y) Y Y Y (Nat.le_of_ble_eq_true Y) (Zd Y) Y)<|Za<|I1 (fun x2=>⟨[(2, .rp [.int .i64 s.Den, .sl 59 (List.map R59 s.Samples)] 0), (3, .rp [.int .i64 c_.Den, .sl 101 (List.map Jw c_.Lines), .int .i64 c_.Low, .int .i64 c_.High] 0), (4, .ptr 0 1 0 0), (5, .ptr 1 1 0 0), (6, .int .i64 i), (7, .ptr 3 1 0 0)], [some ⟨31, [[.int .i64 0, .nils]]⟩, some ⟨31, [[.int .i64 c_.Den, .own 2 Samples2.length]]⟩, some ⟨59, List.map R59 Samples2⟩, some ⟨59, [[.int .i64 x2.At, .int .i64 x2.N, .int .i64 x2.Mark]]⟩]⟩) h (fun h=>?_) fun x2 h=>?_
   ·
    refine K6 2 3 4 5 6 7 Y<|Tr<|Rq Y (Zg (ov Y) Y Y Qy)<|Rq Y (Zn (ov Y) Y Y Y tS3 Y)<|bE h fun y h_y h=>Rq Y (Zl (Zec h_y)<|.cons (ov Y) (.b Y) .nil)<|Za<|K7 2 3 4 5 6 7 27 Y<|If h Y (fun h=>?_) fun h=>?_
    ·
     refine K6 2 3 4 5 6 7 Y<|Tr<|Rq Y (Zh (ov Y) ZgF Y Y)<|Rq Y (Zg (ov Y) Y Y Zbg)<|Rq Y (Zn (ov Y) Y Y Y tS3 Y)<|bE h fun y2 h_y2 h=>Rq Y (Zl (Zjv h_y2)<|.cons (ov Y) (.aggB Y)<|.cons (ov Y) (.b Y) .nil)<|Rm Y<|Rq Y (Zr (ov Y) Y)<|Rq Y (Zr (ov Y) Y)<|Ra Y<|Ra Y<|Za<|K8 2 3 4 5 6 7 8 9 Y<|Tr<|Rm Y<|Rq Y (Zg (ov Y) Y Y Zbg)<|Rx Y (Zo (ov Y) (ov Y) (ZO tS3) Y Y Y (Nat.le_of_ble_eq_true Y) (Zd Y) Y)<|Za<|K7 2 3 4 5 6 7 9 Y<|Tr<|Rm Y<|R1 Z0 Y<|Za<|K7 2 3 4 5 6 7 38 Y<|If h Y (fun h=>?_) fun h=>?_
     ·
      exact K6 2 3 4 5 6 7 Y<|Zs<|Rq Y (Zg (ov Y) Y Y Qy)<|Rx Y (Zo (ov Y) (ov Y) (ZO tS3) Y Y Y (Nat.le_of_ble_eq_true Y) (Zd Y) Y)<|Za<|⟨_, h, ES [some 0, some 1, some 2, some 3]⟩
     ·
      exact Ze<|⟨_, h, ES [some 0, some 1, some 2, some 3]⟩
    ·
     exact Ze<|⟨_, h, ES [some 0, some 1, some 2, some 3]⟩
   ·
    exact Zs<|Rq Y (Zg (ov Y) Y Y Qb)<|Rq Y (Zn (ov Y) Y Y Y X6 Y)<|Rq Y (ZL (ov Y) Y Y Y Xn Y Y)<|R_q (.sl 59<|List.map R59 ([x2] : List api_Sample)) Y (JO QV (.cons (cva<|ov Y) Y (pwD Y) .nil) Y Y)<|bE h fun l h_l h=>Rx Y (Qf (ov Y) (Qp (ov Y) tZ_59) QV Y Y Y (fun _=>Zd Y) Y h_l)<|Rq Y (Zg (ov Y) Y Y Qb)<|Rx Y (Zo (ov Y) (ov Y) (ZO X6) Y Y Y (Nat.le_of_ble_eq_true Y) (Zd Y) Y)<|Za<|K5 2 3 4 5 6 Y<|Zs<|Rm Y<|R2 ZB Y<|Ra Y<|Za<|⟨_, h, ES [some 0, some 1, some 2]⟩
  ·
   refine Zu<|?_
   replace h := lx h ▸ ho1
   exact ⟨_, h, ES [some 0, some 1, some 2]⟩
 ·
  refine Tr<|Rq Y (ZL (ov Y) Y Y Y ZY Y Y)<|Rx Y (Zo (ov Y) (ov Y) (Zk ZY Y) Y Y Y (Nat.le_of_ble_eq_true Y) (Zd Y) Y)<|Za<|?_
  obtain rfl := rt h
  exact Zi (Zq Y (.one<|.agg Y Y Y Y ZY Y Y<|.cons (Dat.view<|.b Y)<|.cons (View.ownM Y Y D59) .nil))
theorem Zg2 {s : api_Series} {c_ : api_Calibration} {r : api_Series × Int} (h : ZaW s c_ = some r) :
 CSpec Tryz.prog gl0 8 [.agg [.int .i64 s.Den, .sl 59 (List.map R59 s.Samples)], .agg [.int .i64 c_.Den, .sl 101 (List.map Jw c_.Lines), .int .i64 c_.Low, .int .i64 c_.High]] (.tuple [.agg [.int .i64 r.1.Den, .sl 59 (List.map R59 r.1.Samples)], .int .i64 r.2]) := by
 unfold ZaW at h
 replace h := ZE h
 refine So Tryz.func8 Y fun w0 A=>Tr<|Rq Y (Zv (cva<|ov Y) Y tZ_31 Y)<|Rq Y (Zv (cva<|ov Y) Y tZ_28 Y)<|Rx Y (Zt (row := [_, _]) 0 Y X7 Y tZ_31)<|Ra Y<|Za<|Zj<|K3 2 3 4 Y<|Tr<|Rq Y (Zh (ov Y) ZY Y Y)<|bE h fun y h_y h=>Rq Y (Zl (ZjG h_y)<|.cons (ov Y) (.aggB Y) .nil)<|Ra Y<|Za<|K4 2 3 4 6 Y<|Tr<|Rm Y<|R2 QC Y<|Za<|K5 2 3 4 6 11 Y<|If h Y (fun h=>?_) fun h=>?_
 ·
  refine K2 4 6 Y<|Tr<|Rq Y (ZA (ys := [_, _]) Jz JB X7 .nil Y)<|Rm Y<|Rx Y (Zo (ov Y) (ov Y) (Zk ZY Y) Y Y Y (Nat.le_of_ble_eq_true Y) (Zd Y) Y)<|Ra Y<|Za<|?_
  obtain rfl := rt h
  exact Zi (Zq Y (.two (.agg Y Y Y Y ZY Y Y<|.cons (Dat.view<|.b Y)<|.cons (View.nils 59) .nil)<|rb Y))
 ·
  refine Ze<|Zj<|K3 2 3 4 Y<|Tr<|Rq Y (Zh (ov Y) ZgF Y Y)<|bE h fun y2 h_y2 h=>Rq Y (Zl (Zd8 h_y2)<|.cons (ov Y) (.aggB Y) .nil)<|Ra Y<|Za<|K4 2 3 4 7 Y<|Tr<|Rm Y<|R2 QC Y<|Za<|K5 2 3 4 7 17 Y<|If h Y (fun h=>?_) fun h=>?_
  ·
   refine K2 4 7 Y<|Tr<|Rq Y (ZA (ys := [_, _]) Jz JB X7 .nil Y)<|Rm Y<|Rx Y (Zo (ov Y) (ov Y) (Zk ZY Y) Y Y Y (Nat.le_of_ble_eq_true Y) (Zd Y) Y)<|Ra Y<|Za<|?_
   obtain rfl := rt h
   exact Zi (Zq Y (.two (.agg Y Y Y Y ZY Y Y<|.cons (Dat.view<|.b Y)<|.cons (View.nils 59) .nil)<|rb Y))
  ·
   refine Ze<|Zj<|K3 2 3 4 Y<|Tr<|Rq Y (Zc (ov Y) ZiB)<|Rq Y (Zb (ov Y) tS3 Y)<|R2 QC Y<|Za<|K4 2 3 4 22 Y<|If h Y (fun h=>?_) fun h=>?_
   ·
    refine K1 4 Y<|Tr<|Rq Y (ZA (ys := [_, _]) Jz JB X7 .nil Y)<|Rx Y (Zo (ov Y) (ov Y) (Zk ZY Y) Y Y Y (Nat.le_of_ble_eq_true Y) (Zd Y) Y)<|Ra Y<|Za<|?_
    obtain rfl := rt h
    exact Zi (Zq Y (.two (.agg Y Y Y Y ZY Y Y<|.cons (Dat.view<|.b Y)<|.cons (View.nils 59) .nil)<|rb Y))
   ·
    refine Ze<|K3 2 3 4 Y<|Tr<|Rq Y (Zh (ov Y) ZY Y Y)<|Rq Y (Zh (ov Y) ZgF Y Y)<|bE h fun y3 h_y3 h=>Rq Y (Zl (ZjL h_y3)<|.cons (ov Y) (.aggB Y)<|.cons (ov Y) (.aggB Y) .nil)<|Rx Y (Zo (ov Y) (ov Y) (Zk ZY Y) Y Y Y (Nat.le_of_ble_eq_true Y) (Zd Y) Y)<|Ra Y<|Za<|?_
    obtain rfl := rt h
    exact Zi (Zq Y (.two (.agg Y Y Y Y ZY Y Y<|pwB Y)<|rb Y))
theorem XI {x : List api_Sample} {target : Int} {cmp : api_Sample → Int → Option Int} {r : Int × Bool} {cmp_f : FuncId} {cmp_c : List AV} (cmp_d : cmp_c.all datB = true) (cmp_h : ∀ (z0 : api_Sample) (z1 : Int) z, cmp z0 z1 = some z → CSpec Tryz.prog gl0 cmp_f ([.agg [.int .i64 z0.At, .int .i64 z0.N, .int .i64 z0.Mark], .int .i64 z1] ++ cmp_c) (.int .i64 z)) (h : ZF x target cmp = some r) :
 CSpec Tryz.prog gl0 103 [.sl 59 (List.map R59 x), .int .i64 target, .fn cmp_f cmp_c] (.tuple [.int .i64 r.1, .bool r.2]) := by
 unfold ZF at h
 replace h := ZE h
 refine So Tryz.func103 Y fun w0 A=>Tr<|Ra Y<|Ra Y<|Za<|K3 0 1 2 Y<|Tr<|Rm Y<|Rl tZ_59 QV Y<|Ra Y<|Za<|K4 0 1 2 8 Y<|Tr<|Rm Y<|Ra Y<|Ra Y<|Za<|I1 (fun i=>⟨[(0, .sl 59 (List.map R59 x)), (1, .int .i64 target), (2, .fn cmp_f cmp_c), (8, .int .i64 (x.length : Int)), (9, .int .i64 i)], []⟩) h (fun h=>?_) fun i h=>?_
 ·
  refine Zf<|?_
  obtain ⟨r1, hl1, ho1⟩ := Z1 h
  refine L2 (fun i2 j=>⟨[(0, .sl 59 (List.map R59 x)), (1, .int .i64 target), (2, .fn cmp_f cmp_c), (8, .int .i64 (x.length : Int)), (9, .int .i64 i2), (10, .int .i64 j)], []⟩) hl1 (ES []<|sd 0 Y Y<|sd 1 Y Y<|sr 2 Y (rFn<|rld cmp_d)<|sd 8 Y Y<|sd 9 Y Y<|sd 10 Y Y sn) fun n1 i2 j h=>?_
  unfold ZC at h
  refine Zj<|Tr<|Rm Y<|Rm Y<|R2 Zw Y<|Za<|K7 0 1 2 8 9 10 17 Y<|If h Y (fun h=>?_) fun h=>?_
  ·
   refine Ze<|Zf<|K6 0 1 2 8 9 10 Y<|Tr<|Rm Y<|Rm Y<|R2 ZB Y<|Rq Y (J2 (ov Y) tI3 Zqz Y)<|bE h fun q h_q h=>Rq Y (Zft (ov Y) (ov Y) h_q)<|Rq Y (J2 (ov Y) Zqz tI3 Y)<|Ra Y<|Za<|K7 0 1 2 8 9 10 11 Y<|Tr<|Rm Y<|Rm Y<|Rm Y<|bE h fun x2 h_x2 h=>Rq Y (Zx (ov Y) (ov Y) QV h_x2)<|Rq Y (Zh (ov Y) Xn Y Y)<|Rm Y<|bE h fun y h_y h=>Rq Y (JZ (ov Y) cmp_d (cmp_h _ _ _ h_y)<|.cons (ov Y) (.aggB Y)<|.cons (ov Y) (.b Y) .nil)<|R2 Zw Y<|Za<|K8 0 1 2 8 9 10 11 31 Y<|If h Y (fun h=>?_) fun h=>?_
   ·
    exact K7 0 1 2 8 9 10 11 Y<|Zs<|Rm Y<|R2 ZB Y<|Ra Y<|Za<|⟨_, h, ES []<|sd 0 Y Y<|sd 1 Y Y<|sr 2 Y (rFn<|rld cmp_d)<|sd 8 Y Y<|sd 9 Y Y<|sd 10 Y Y sn⟩
   ·
    exact K7 0 1 2 8 9 10 11 Y<|Zs<|Rm Y<|Ra Y<|Za<|⟨_, h, ES []<|sd 0 Y Y<|sd 1 Y Y<|sr 2 Y (rFn<|rld cmp_d)<|sd 8 Y Y<|sd 9 Y Y<|sd 10 Y Y sn⟩
  ·
   refine Zu<|?_
   replace h := lx h ▸ ho1
   exact ⟨_, h, ES []<|sd 0 Y Y<|sd 1 Y Y<|sr 2 Y (rFn<|rld cmp_d)<|sd 8 Y Y<|sd 9 Y Y sn⟩
 ·
  refine Tr<|Rm Y<|Rm Y<|Rm Y<|R2 Zw Y<|Rm Y<|Rq Y (.guarded ((decide (i < (x.length : Int))) == true) Y Y Y Y fun h => Zm<|ov Y)<|Rq Y (.guarded ((decide (i < (x.length : Int))) == true) Y Y Y Y fun h => Zm<|ov Y)<|Rq Y (.guarded ((decide (i < (x.length : Int))) == true) Y Y Y Y fun h => Zm<|ov Y)<|bE h fun x3 h_x3 h=>Rq Y (.guarded ((decide (i < (x.length : Int))) == true) Y Y Y Y fun h => Zx (ow Y h) (ow Y h) QV<|gdT h_x3 h)<|Rq Y (.guarded ((decide (i < (x.length : Int))) == true) Y Y Y Y fun h => Zh (ow Y h) Xn Y Y)<|Rq Y (.guarded ((decide (i < (x.length : Int))) == true) Y Y Y Y fun h => Zm<|ov Y)<|bE h fun y2 h_y2 h=>Rq Y (.guarded ((decide (i < (x.length : Int))) == true) Y Y Y Y fun h => JZ (ow Y h) cmp_d (cmp_h _ _ _<|gdT h_y2 h)<|.cons (ow Y h) (.aggB Y)<|.cons (ow Y h) (.b Y) .nil)<|Rq Y (.guarded ((decide (i < (x.length : Int))) == true) Y Y Y Y fun h => Z4 (ow Y h)<|ov Y)<|Rq Y (Ql (ov Y) fun hp=>ow Y<|gT hp)<|Ra Y<|Ra Y<|Za<|?_
  obtain rfl := rt h
  exact Zi (Zq Y (.two (rb Y)<|rb Y))
theorem Zgp {x : api_Sample} {at_ : Int} {r : Int} (h : Xz x at_ = some r) :
 CSpec Tryz.prog gl0 104 [.agg [.int .i64 x.At, .int .i64 x.N, .int .i64 x.Mark], .int .i64 at_] (.int .i64 r) := by
 unfold Xz at h
 replace h := ZE h
 refine So Tryz.func104 Y fun w0 A=>Tr<|Rq Y (Zv (cva<|ov Y) Y tZ_59 Y)<|Ra Y<|Za<|K3 1 2 4 Y<|Tr<|Rq Y (Zc (ov Y) Zaz)<|Rq Y (Zb (ov Y) tS3 Y)<|Rm Y<|R2 ZaF Y<|Ra Y<|Za<|?_
 obtain rfl := rt h
 exact Zi (Zq Y (.one<|rb Y))
theorem ZhF {s : api_Series} {at_ : Int} {r : Int} (h : Zbx s at_ = some r) :
 CSpec Tryz.prog gl0 81 [.agg [.int .i64 s.Den, .sl 59 (List.map R59 s.Samples)], .int .i64 at_] (.int .i64 r) := by
 unfold Zbx at h
 replace h := ZE h
 refine So Tryz.func81 Y fun w0 A=>Tr<|Rq Y (Zv (cva<|ov Y) Y tZ_31 Y)<|Ra Y<|Za<|K2 1 2 Y<|Tr<|Rq Y (Zc (ov Y) Qb)<|Rq Y (Zb (ov Y) X6 Y)<|Rm Y<|bE h fun y h_y h=>Rq Y (Zl (XI Y (fun z0 z1 _ hz=>Zgp hz) h_y)<|.cons (ov Y) (.b Y)<|.cons (ov Y) (.b Y)<|.cons (ov Y) .fn .nil)<|Rm Y<|Rq Y (Zr (ov Y) Y)<|Rq Y (Zr (ov Y) Y)<|Ra Y<|Ra Y<|Za<|Zj<|K2 5 6 Y<|Tr<|Rm Y<|Za<|K2 5 14 Y<|If h Y (fun h=>?_) fun h=>?_
 ·
  refine K1 5 Y<|Tr<|Rm Y<|Ra Y<|Za<|?_
  obtain rfl := rt h
  exact Zi (Zq Y (.one<|rb Y))
 ·
  refine Ze<|K1 5 Y<|Tr<|Rm Y<|R2 ZaF Y<|Ra Y<|Za<|?_
  obtain rfl := rt h
  exact Zi (Zq Y (.one<|rb Y))
theorem Zij {x : api_Sample} {r : Bool} (h : Zdo x = some r) :
 CSpec Tryz.prog gl0 82 [.agg [.int .i64 x.At, .int .i64 x.N, .int .i64 x.Mark]] (.bool r) := by
 unfold Zdo at h
 replace h := ZE h
 refine So Tryz.func82 Y fun w0 A=>Tr<|Rq Y (Zv (cva<|ov Y) Y tZ_59 Y)<|Ra Y<|Za<|K2 1 2 Y<|Tr<|Rq Y (Zc (ov Y) Qy)<|Rq Y (Zb (ov Y) tS3 Y)<|R2 JP Y<|Ra Y<|Za<|?_
 obtain rfl := rt h
 exact Zi (Zq Y (.one<|rb Y))
theorem ZiI {s : api_Series} {at_ : Int} {long : Int} {r : api_Sample × Bool} (h : ZcV s at_ long = some r) :
 CSpec Tryz.prog gl0 54 [.agg [.int .i64 s.Den, .sl 59 (List.map R59 s.Samples)], .int .i64 at_, .int .i64 long] (.tuple [.agg [.int .i64 r.1.At, .int .i64 r.1.N, .int .i64 r.1.Mark], .bool r.2]) := by
 unfold ZcV at h
 replace h := ZE h
 refine So Tryz.func54 Y fun w0 A=>Tr<|Rq Y (Zv (cva<|ov Y) Y tZ_31 Y)<|Rx Y (Zt (row := [_, _, _]) 0 Y Zbi Y tZ_59)<|Ra Y<|Za<|K4 1 2 3 6 Y<|Tr<|Rq Y (Zh (ov Y) ZY Y Y)<|Rm Y<|bE h fun y h_y h=>Rq Y (Zl (ZhF h_y)<|.cons (ov Y) (.aggB Y)<|.cons (ov Y) (.b Y) .nil)<|Ra Y<|Za<|Zj<|K5 1 2 3 6 8 Y<|Tr<|Rm Y<|R2 Zw Y<|Rm Y<|Rq Y (.guarded ((decide (y < 0)) == false) Y Y Y Y fun h => Zc (ov Y) Qb)<|Rq Y (.guarded ((decide (y < 0)) == false) Y Y Y Y fun h => Zb (ow Y h) X6 Y)<|Rq Y (.guarded ((decide (y < 0)) == false) Y Y Y Y fun h => Zm<|ov Y)<|bE h fun x h_x h=>Rq Y (.guarded ((decide (y < 0)) == false) Y Y Y Y fun h => Zx (ow Y h) (ow Y h) QV<|gdT h_x h)<|Rq Y (.guarded ((decide (y < 0)) == false) Y Y Y Y fun h => Zh (ow Y h) Xn Y Y)<|bE h fun y2 h_y2 h=>Rq Y (.guarded ((decide (y < 0)) == false) Y Y Y Y fun h => Zl (Zij<|gdT h_y2 h)<|.cons (ow Y h) (.aggB Y) .nil)<|Rq Y (.guarded ((decide (y < 0)) == false) Y Y Y Y fun h => Z0<|ow Y h)<|Rq Y (QB (ov Y) fun hp=>ow Y<|gF hp)<|Rm Y<|Rq Y (.guarded (((decide (y < 0)) || (!y2)) == false) Y Y Y Y fun h => Zm<|ov Y)<|Rq Y (.guarded (((decide (y < 0)) || (!y2)) == false) Y Y Y Y fun h => Zc (ov Y) Qb)<|Rq Y (.guarded (((decide (y < 0)) || (!y2)) == false) Y Y Y Y fun h => Zb (ow Y h) X6 Y)<|Rq Y (.guarded (((decide (y < 0)) || (!y2)) == false) Y Y Y Y fun h => Zm<|ov Y)<|bE h fun x2 h_x2 h=>Rq Y (.guarded (((decide (y < 0)) || (!y2)) == false) Y Y Y Y fun h => Zx (ow Y h) (ow Y h) QV<|gdT h_x2 h)<|Rq Y (.guarded (((decide (y < 0)) || (!y2)) == false) Y Y Y Y fun h => Zc (ow Y h) Zaz)<|Rq Y (.guarded (((decide (y < 0)) || (!y2)) == false) Y Y Y Y fun h => Zb (ow Y h) tS3 Y)<|Rq Y (.guarded (((decide (y < 0)) || (!y2)) == false) Y Y Y Y fun h => ZfJ (ow Y h) (ow Y h) Y)<|Rq Y (.guarded (((decide (y < 0)) || (!y2)) == false) Y Y Y Y fun h => Zm<|ov Y)<|Rq Y (.guarded (((decide (y < 0)) || (!y2)) == false) Y Y Y Y fun h => Qj (ow Y h)<|ow Y h)<|Rq Y (QB (ov Y) fun hp=>ow Y<|gF hp)<|Za<|K4 3 6 8 34 Y<|If h Y (fun h=>?_) fun h=>?_
 ·
  refine K1 6 Y<|Tr<|Rq Y (ZA (ys := [_, _, _]) Zcl Zcn Zbi .nil Y)<|Rx Y (Zo (ov Y) (ov Y) (Zk Xn Y) Y Y Y (Nat.le_of_ble_eq_true Y) (Zd Y) Y)<|Ra Y<|Za<|?_
  obtain rfl := rt h
  exact Zi (Zq Y (.two (.agg Y Y Y Y Xn Y Y<|pwB Y)<|rb Y))
 ·
  refine Ze<|K3 3 6 8 Y<|Tr<|Rq Y (Zc (ov Y) Qb)<|Rq Y (Zb (ov Y) X6 Y)<|Rm Y<|bE h fun x3 h_x3 h=>Rq Y (Zx (ov Y) (ov Y) QV h_x3)<|Rq Y (Zh (ov Y) Xn Y Y)<|Rx Y (Zo (ov Y) (ov Y) (Zk Xn Y) Y Y Y (Nat.le_of_ble_eq_true Y) (Zd Y) Y)<|Ra Y<|Za<|?_
  obtain rfl := rt h
  exact Zi (Zq Y (.two (.agg Y Y Y Y Xn Y Y<|pwB Y)<|rb Y))
theorem Zi0 {s : api_Series} {at_ : Int} {long : Int} {r : api_Sample × Bool × Int} (h : Zc5 s at_ long = some r) :
 CSpec Tryz.prog gl0 30 [.agg [.int .i64 s.Den, .sl 59 (List.map R59 s.Samples)], .int .i64 at_, .int .i64 long] (.tuple [.agg [.int .i64 r.1.At, .int .i64 r.1.N, .int .i64 r.1.Mark], .bool r.2.1, .int .i64 r.2.2]) := by
 unfold Zc5 at h
 replace h := ZE h
 refine So Tryz.func30 Y fun w0 A=>Tr<|Rq Y (Zv (cva<|ov Y) Y tZ_31 Y)<|Rx Y (Zt (row := [_, _, _]) 0 Y Zbi Y tZ_59)<|Ra Y<|Ra Y<|Za<|Zj<|K4 1 2 3 6 Y<|Tr<|Rq Y (Zh (ov Y) ZY Y Y)<|bE h fun y h_y h=>Rq Y (Zl (ZeP h_y)<|.cons (ov Y) (.aggB Y) .nil)<|Ra Y<|Za<|K5 1 2 3 6 9 Y<|Tr<|Rm Y<|R2 QC Y<|Za<|K6 1 2 3 6 9 15 Y<|If h Y (fun h=>?_) fun h=>?_
 ·
  refine K2 6 9 Y<|Tr<|Rq Y (ZA (ys := [_, _, _]) Zcl Zcn Zbi .nil Y)<|Rm Y<|Rx Y (Zo (ov Y) (ov Y) (Zk Xn Y) Y Y Y (Nat.le_of_ble_eq_true Y) (Zd Y) Y)<|Ra Y<|Ra Y<|Za<|?_
  obtain rfl := rt h
  exact Zi (Zq Y (.three (.agg Y Y Y Y Xn Y Y<|pwB Y) (rb Y)<|rb Y))
 ·
  refine Ze<|Zj<|K4 1 2 3 6 Y<|Tr<|Rm Y<|bE h fun y2 h_y2 h=>Rq Y (Zl (ZJ h_y2)<|.cons (ov Y) (.b Y)<|.cons (ov Y) (.b Y)<|.cons (ov Y) (.b Y) .nil)<|R1 Z0 Y<|Rm Y<|Rq Y (.guarded ((!y2) == false) Y Y Y Y fun h => Zm<|ov Y)<|bE h fun y3 h_y3 h=>Rq Y (.guarded ((!y2) == false) Y Y Y Y fun h => Zl (ZJ<|gdT h_y3 h)<|.cons (ow Y h) (.b Y)<|.cons (ov Y) (.b Y)<|.cons (ov Y) (.b Y) .nil)<|Rq Y (.guarded ((!y2) == false) Y Y Y Y fun h => Z0<|ow Y h)<|Rq Y (QB (ov Y) fun hp=>ow Y<|gF hp)<|Za<|K5 1 2 3 6 25 Y<|If h Y (fun h=>?_) fun h=>?_
  ·
   refine K1 6 Y<|Tr<|Rq Y (ZA (ys := [_, _, _]) Zcl Zcn Zbi .nil Y)<|Rx Y (Zo (ov Y) (ov Y) (Zk Xn Y) Y Y Y (Nat.le_of_ble_eq_true Y) (Zd Y) Y)<|Ra Y<|Ra Y<|Za<|?_
   obtain rfl := rt h
   exact Zi (Zq Y (.three (.agg Y Y Y Y Xn Y Y<|pwB Y) (rb Y)<|rb Y))
  ·
   refine Ze<|K4 1 2 3 6 Y<|Tr<|Rq Y (Zh (ov Y) ZY Y Y)<|Rm Y<|Rm Y<|bE h fun y4 h_y4 h=>Rq Y (Zl (ZiI h_y4)<|.cons (ov Y) (.aggB Y)<|.cons (ov Y) (.b Y)<|.cons (ov Y) (.b Y) .nil)<|Rm Y<|Rq Y (Zr (ov Y) Y)<|Rq Y (Zr (ov Y) Y)<|Rx Y (Zt (row := [_, _, _]) 1 Y Zbi Y tZ_59)<|Rx Y (Zo (ov Y) (ov Y) (Zk Xn Y) Y Y Y (Nat.le_of_ble_eq_true Y) (Zd Y) Y)<|Ra Y<|Za<|K3 6 10 11 Y<|Tr<|Rq Y (ZL (ov Y) Y Y Y Xn Y Y)<|Rm Y<|Rx Y (Zo (ov Y) (ov Y) (Zk Xn Y) Y Y Y (Nat.le_of_ble_eq_true Y) (Zd Y) Y)<|Ra Y<|Ra Y<|Za<|?_
   obtain rfl := rt h
   exact Zi (Zq Y (.three (.agg Y Y Y Y Xn Y Y<|pwB Y) (rb Y)<|rb Y))
theorem Zjx  {r : Bool} (h : ZdK  = some r) :
 CSpec Tryz.prog gl0 9 [] (.bool r) := by
 unfold ZdK at h
 replace h := ZE h
 refine So Tryz.func9 Y fun w0 A=>Tr<|Ra Y<|Za<|K0<|Tr<|Rq Y (ZA (ys := [_, _, _]) Zcl Zcn Zbi (.cons (cvs (ov Y)<|Zp Y)<|.cons (cvs (ov Y)<|Zp Y)<|.cons (cvs (ov Y)<|Zp Y) .nil) Y)<|R_q (.sl 59<|List.map R59 ([(api_Sample.mk 5 7 4)] : List api_Sample)) Y (JO QV (.cons (cva<|ov Y) Y (pwD Y) .nil) Y Y)<|Rq Y (ZA (ys := [_, _]) Jz JB X7 (.cons (cvs (ov Y)<|Zp Y)<|.cons (cvs (ov Y)<|Zp Y) .nil) Y)<|bE h fun y h_y h=>Rq Y (Zl (Zi0 h_y)<|.cons (ov Y) (.aggB Y)<|.cons (ov Y) (.b Y)<|.cons (ov Y) (.b Y) .nil)<|Rm Y<|Rq Y (Zr (ov Y) Y)<|Rq Y (Zr (ov Y) Y)<|Rq Y (Zr (ov Y) Y)<|Rx Y (Zt (row := [_, _, _]) 0 Y Zbi Y tZ_59)<|Rx Y (Zo (ov Y) (ov Y) (Zk Xn Y) Y Y Y (Nat.le_of_ble_eq_true Y) (Zd Y) Y)<|Ra Y<|Ra Y<|Za<|K3 1 2 3 Y<|Tr<|Rm Y<|Rm Y<|Rq Y (.guarded (y.2.1 == true) Y Y Y Y fun h => Zm<|ov Y)<|Rq Y (.guarded (y.2.1 == true) Y Y Y Y fun h => Z4 (ow Y h)<|ov Y)<|Rq Y (Ql (ov Y) fun hp=>ow Y<|gT hp)<|Rm Y<|Rq Y (.guarded ((y.2.1 && (decide (y.2.2 = 0))) == true) Y Y Y Y fun h => ZL (ov Y) Y Y Y Xn Y Y)<|Rq Y (.guarded ((y.2.1 && (decide (y.2.2 = 0))) == true) Y Y Y Y fun h => ZA (ys := [_, _, _]) Zcl Zcn Zbi (.cons (cvs (ov Y)<|Zp Y)<|.cons (cvs (ov Y)<|Zp Y)<|.cons (cvs (ov Y)<|Zp Y) .nil) Y)<|Rq Y (.guarded ((y.2.1 && (decide (y.2.2 = 0))) == true) Y Y Y Y fun h => Zo2 ZrW (ow Y h) (ow Y h) (.aggB Y) (.aggB Y) Y Y)<|Rq Y (Ql (ov Y) fun hp=>ow Y<|gT hp)<|Ra Y<|Za<|?_
 obtain rfl := rt h
 exact Zi (Zq Y (.one<|rb Y))
theorem ZbJ {m : api_Map} {name : Str} {l : List api_Rest} {c_ : api_Calibration} {r : Bool} (h : Qu m name l c_ = some r) :
 CSpec Tryz.prog gl0 3 [.agg [.int .i64 m.Version, .sl 45 (List.map R45 m.Params)], .str name, .sl 56 (List.map R56 l), .agg [.int .i64 c_.Den, .sl 101 (List.map Jw c_.Lines), .int .i64 c_.Low, .int .i64 c_.High]] (.bool r) := by
 unfold Qu at h
 replace h := ZE h
 refine So Tryz.func3 Y fun w0 A=>Tr<|Rq Y (Zv (cva<|ov Y) Y tZ_24 Y)<|Rq Y (Zv (cva<|ov Y) Y tZ_28 Y)<|Ra Y<|Za<|K4 1 2 4 7 Y<|Tr<|Rq Y (Zh (ov Y) Zf6 Y Y)<|Rm Y<|Rm Y<|bE h fun y h_y h=>Rq Y (Zl (Zgd h_y)<|.cons (ov Y) (.aggB Y)<|.cons (ov Y) (.b Y)<|.cons (ov Y) (.b Y) .nil)<|Rm Y<|Rq Y (Zr (ov Y) Y)<|Rq Y (Zr (ov Y) Y)<|Rx Y (Zt (row := [_, _]) 0 Y X7 Y tZ_31)<|Rx Y (Zo (ov Y) (ov Y) (Zk ZY Y) Y Y Y (Nat.le_of_ble_eq_true Y) (Zd Y) Y)<|Ra Y<|Za<|Zj<|K6 1 2 4 7 9 10 Y<|Td md0<|Dq 0 Y (ZL (ov Y) Y Y Y ZY Y Y)<|D1 1 Zm Y<|bE h fun y2 h_y2 h=>Dq 2 Y (Zl (Zdl h_y2)<|.cons (ov Y) (.aggB Y)<|.cons (ov Y) (.b Y) .nil)<|Dq 3 Y (Zh (ov Y) Zf6 Y Y)<|D1 4 Zm Y<|D1 5 Zm Y<|bE h fun y3 h_y3 h=>Dq 6 Y (Zl (ZgT h_y3)<|.cons (ov Y) (.aggB Y)<|.cons (ov Y) (.b Y)<|.cons (ov Y) (.b Y) .nil)<|Dq 7 Y (Zr (ov Y) Y)<|Dq 8 Y (Zr (ov Y) Y)<|bE h fun y4 h_y4 h=>Dq 9 Y (Zl (Zdl h_y4)<|.cons (ov Y) (.aggB Y)<|.cons (ov Y) (.b Y) .nil)<|D2 10 ZoT Y<|Dd<|K4 7 9 10 28 Y<|If h Y (fun h=>?_) fun h=>?_
 ·
  refine K0<|Tr<|Ra Y<|Za<|?_
  obtain rfl := rt h
  exact Zi (Zq Y (.one<|rb Y))
 ·
  refine Ze<|K3 7 9 10 Y<|Td md0<|D1 0 Zm Y<|D2 1 QC Y<|D1 2 Zm Y<|Dq 3 Y (.guarded ((!decide (y.2 = 0)) == false) Y Y Y Y fun h => ZL (ov Y) Y Y Y ZY Y Y)<|Dq 4 Y (.guarded ((!decide (y.2 = 0)) == false) Y Y Y Y fun h => Zh (ov Y) ZgF Y Y)<|bE h fun y5 h_y5 h=>Dq 5 Y (.guarded ((!decide (y.2 = 0)) == false) Y Y Y Y fun h => Zl (Zgc<|gdT h_y5 h)<|.cons (ow Y h) (.aggB Y)<|.cons (ow Y h) (.aggB Y) .nil)<|Dq 6 Y (.guarded ((!decide (y.2 = 0)) == false) Y Y Y Y fun h => Zr (ow Y h) Y)<|Dq 7 Y (.guarded ((!decide (y.2 = 0)) == false) Y Y Y Y fun h => Zr (ow Y h) Y)<|bE h fun y6 h_y6 h=>Dq 8 Y (.guarded ((!decide (y.2 = 0)) == false) Y Y Y Y fun h => Zl (Zdl<|gdT h_y6 h)<|.cons (ow Y h) (.aggB Y)<|.cons (ow Y h) (.b Y) .nil)<|Dq 9 Y (.guarded ((!decide (y.2 = 0)) == false) Y Y Y Y fun h => ZL (ov Y) Y Y Y ZY Y Y)<|Dq 10 Y (.guarded ((!decide (y.2 = 0)) == false) Y Y Y Y fun h => Zh (ov Y) ZgF Y Y)<|bE h fun y7 h_y7 h=>Dq 11 Y (.guarded ((!decide (y.2 = 0)) == false) Y Y Y Y fun h => Zl (Zg2<|gdT h_y7 h)<|.cons (ow Y h) (.aggB Y)<|.cons (ow Y h) (.aggB Y) .nil)<|Dq 12 Y (.guarded ((!decide (y.2 = 0)) == false) Y Y Y Y fun h => Zr (ow Y h) Y)<|Dq 13 Y (.guarded ((!decide (y.2 = 0)) == false) Y Y Y Y fun h => Zr (ow Y h) Y)<|bE h fun y8 h_y8 h=>Dq 14 Y (.guarded ((!decide (y.2 = 0)) == false) Y Y Y Y fun h => Zl (Zdl<|gdT h_y8 h)<|.cons (ow Y h) (.aggB Y)<|.cons (ow Y h) (.b Y) .nil)<|Dq 15 Y (.guarded ((!decide (y.2 = 0)) == false) Y Y Y Y fun h => ZdG (ow Y h)<|ow Y h)<|Dq 16 Y (QB (ov Y) fun hp=>ow Y<|gF hp)<|D1 17 Zm Y<|bE h fun y9 h_y9 h=>Dq 18 Y (.guarded (((!decide (y.2 = 0)) || (decide (y6 = y8))) == true) Y Y Y Y fun h => Zl (Zjx<|gdT h_y9 h) .nil)<|Dq 19 Y (Ql (ov Y) fun hp=>ow Y<|gT hp)<|D1 20 Z6 Y<|Dd<|?_
  obtain rfl := rt h
  exact Zi (Zq Y (.one<|rb Y))
end Go.Proofs.YtacmhbfmedpkhaaGreatDoor
