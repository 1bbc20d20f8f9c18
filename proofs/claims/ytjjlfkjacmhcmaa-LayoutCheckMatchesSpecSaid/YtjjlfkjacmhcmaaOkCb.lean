/- A text of the proof: a verified executor of the program form, or the contracts of the functions that the law reaches. -/
import Derived.Test.YtjjlfkjacmhcmaaOkCa
set_option linter.all false
namespace Go.Proofs.Ytjjlfkjacmhcmaa
open Go Go.Vx
set_option maxRecDepth 10000
set_option maxHeartbeats 1000000
set_option linter.unusedVariables false
theorem ZdK {s : Str} {r : Bool} (h : Zay s = some r) :
 CSpec Try.prog gl0 42 [.str s] (.bool r) := by
 unfold Zay at h
 replace h := Qh h
 refine So Try.func42 Y fun w0 A=>Tr<|Ra Y<|Za<|J0 (fun j => (.inr j)) ⟨[(0, .str s)], []⟩ h (fun h=>?_) fun h=>?_
 ·
  refine K1 0 Y<|Tr<|Ra Y<|Za<|Zf<|?_
  obtain ⟨r1, hl1, ho1⟩ := QS h
  refine L1 (fun i=>⟨[(0, .str s), (3, .int .i64 i)], []⟩) hl1 (ES []) fun n1 i h=>?_
  unfold XS at h
  refine Zh<|Tr<|Rm Y<|Rm Y<|Rq Y (Zds (ov Y) ZfG Y)<|R2 ZK Y<|Za<|K3 0 3 8 Y<|If h Y (fun h=>?_) fun h=>?_
  ·
   refine Ze<|Zh<|Zf<|K2 0 3 Y<|Tr<|Rm Y<|Rm Y<|bE h fun b h_b h=>Rq Y (Zf3 (ov Y) (ov Y) ZfG h_b)<|Ra Y<|Za<|K3 0 3 4 Y<|Tr<|Rm Y<|R2 Zb1 Y<|Rm Y<|Rq Y (.guarded ((decide (97 ≤ b)) == true) Y Y Y Y fun h => Zv<|ov Y)<|Rq Y (.guarded ((decide (97 ≤ b)) == true) Y Y Y Y fun h => Zgx (ow Y h)<|ov Y)<|Rq Y (Jc (ov Y) fun hp=>ow Y<|gT hp)<|Rm Y<|Rq Y (.guarded (((decide (97 ≤ b)) && (decide (b ≤ 122))) == false) Y Y Y Y fun h => Zv<|ov Y)<|Rq Y (.guarded (((decide (97 ≤ b)) && (decide (b ≤ 122))) == false) Y Y Y Y fun h => Jj (ow Y h)<|ov Y)<|Rq Y (.guarded (((decide (97 ≤ b)) && (decide (b ≤ 122))) == false) Y Y Y Y fun h => Zv<|ow Y h)<|Rq Y (.guarded2 ((((decide (97 ≤ b)) && (decide (b ≤ 122))) == false) && ((decide (0 < i)) == true)) Y Y Y Y fun h => Zv<|ov Y)<|Rq Y (.guarded2 ((((decide (97 ≤ b)) && (decide (b ≤ 122))) == false) && ((decide (0 < i)) == true)) Y Y Y Y fun h => Zb1 (ow Y h)<|ov Y)<|Rq Y (.guarded2 ((((decide (97 ≤ b)) && (decide (b ≤ 122))) == false) && ((decide (0 < i)) == true)) Y Y Y Y fun h => Zv<|ow Y h)<|Rq Y (.guarded2 (((((decide (97 ≤ b)) && (decide (b ≤ 122))) == false) && ((decide (0 < i)) == true)) && ((decide (48 ≤ b)) == true)) Y Y Y Y fun h => Zv<|ov Y)<|Rq Y (.guarded2 (((((decide (97 ≤ b)) && (decide (b ≤ 122))) == false) && ((decide (0 < i)) == true)) && ((decide (48 ≤ b)) == true)) Y Y Y Y fun h => Zgx (ow Y h)<|ov Y)<|Rq Y (.guarded2 ((((decide (97 ≤ b)) && (decide (b ≤ 122))) == false) && ((decide (0 < i)) == true)) Y Y Y Y fun h => Jc (ow Y h) fun hp=>ow Y<|gA h<|gT hp)<|Rq Y (.guarded2 ((((decide (97 ≤ b)) && (decide (b ≤ 122))) == false) && ((decide (0 < i)) == true)) Y Y Y Y fun h => Zv<|ow Y h)<|Rq Y (.guarded2 (((((decide (97 ≤ b)) && (decide (b ≤ 122))) == false) && ((decide (0 < i)) == true)) && (((decide (48 ≤ b)) && (decide (b ≤ 57))) == false)) Y Y Y Y fun h => Zv<|ov Y)<|Rq Y (.guarded2 (((((decide (97 ≤ b)) && (decide (b ≤ 122))) == false) && ((decide (0 < i)) == true)) && (((decide (48 ≤ b)) && (decide (b ≤ 57))) == false)) Y Y Y Y fun h => Xa (ow Y h)<|ov Y)<|Rq Y (.guarded2 ((((decide (97 ≤ b)) && (decide (b ≤ 122))) == false) && ((decide (0 < i)) == true)) Y Y Y Y fun h => XQ (ow Y h) fun hp=>ow Y<|gA h<|gF hp)<|Rq Y (.guarded (((decide (97 ≤ b)) && (decide (b ≤ 122))) == false) Y Y Y Y fun h => Jc (ow Y h) fun hp=>ow Y<|gA h<|gT hp)<|Rq Y (XQ (ov Y) fun hp=>ow Y<|gF hp)<|R1 XN Y<|Za<|K3 0 3 36 Y<|If h Y (fun h=>?_) fun h=>?_
   ·
    refine K0<|Tr<|Ra Y<|Za<|?_
    replace h := lx h ▸ ho1
    obtain rfl := rt h
    exact Zi (Zs Y (.one<|rb Y))
   ·
    exact Ze<|K2 0 3 Y<|ZA<|Rm Y<|R2 Qk Y<|Ra Y<|Za<|⟨_, h, ES []⟩
  ·
   refine ZE<|?_
   replace h := lx h ▸ ho1
   exact ⟨(), h, ES []⟩
 ·
  replace h := elr h
  replace h := t0i h
  refine Tr<|Rm Y<|Rq Y (Zds (ov Y) ZfG Y)<|R2 Zb1 Y<|Rm Y<|Rq Y (.guarded ((decide (1 ≤ (s.length : Int))) == true) Y Y Y Y fun h => Zv<|ov Y)<|Rq Y (.guarded ((decide (1 ≤ (s.length : Int))) == true) Y Y Y Y fun h => Zds (ow Y h) ZfG Y)<|Rq Y (.guarded ((decide (1 ≤ (s.length : Int))) == true) Y Y Y Y fun h => Zgx (ow Y h)<|ov Y)<|Rq Y (Jc (ov Y) fun hp=>ow Y<|gT hp)<|Ra Y<|Za<|?_
  obtain rfl := rt h
  exact Zi (Zs Y (.one<|rb Y))
theorem Zey {p : api_Param} {r : Int} (h : Zcm p = some r) :
 CSpec Try.prog gl0 65 [.agg [.str p.Name, .int .i64 p.Kind, .sl 64 (List.map R64 p.Parts), .int .i64 p.First, .int .i64 p.Every, .int .i64 p.Times, .int .i64 p.Step, .sl 9 (List.map R9 p.Names)]] (.int .i64 r) := by
 unfold Zcm at h
 replace h := Qh h
 refine So Try.func65 Y fun w0 A=>Tr<|Rq Y (Z9 (cva<|ov Y) Y tZ_44 Y)<|Ra Y<|Za<|K1 1 Y<|Tr<|Ra Y<|Za<|I1 (fun n=>⟨[(3, .int .i64 n)], []⟩) h (fun h=>?_) fun n h=>?_
 ·
  refine Tr<|Rq Y (Zc (ov Y) ZaL)<|Rq Y (Zb (ov Y) ZeH Y)<|Rl tZ_64 ZbB Y<|Rm Y<|Za<|Zf<|?_
  obtain ⟨r1, hl1, ho1⟩ := QS h
  refine L2 (fun n2 i=>⟨[(3, .int .i64 n2), (7, .sl 64 (List.map R64 p.Parts)), (8, .int .i64 (p.Parts.length : Int)), (9, .int .i64 i)], []⟩) hl1 (ES []) fun n1 n2 i h=>?_
  unfold ZeT at h
  refine Tr<|R2 ZK Y<|Za<|Zh<|If h Y (fun h=>?_) fun h=>?_
  ·
   exact Ze<|Zh<|Zf<|K4 3 7 8 9 Y<|Tr<|bE h fun x h_x h=>Rq Y (ZF (ov Y) (ov Y) ZbB h_x)<|Rq Y (Zg (ov Y) Zcr Y Y)<|Rx Y (Zr (row := [_, _, _, _]) 0 Y ZgF Y tZ_64)<|Rx Y (Zk (ov Y) (ov Y) (Zj Zcr Y) Y Y Y (Nat.le_of_ble_eq_true Y) (Zd Y) Y)<|Za<|K5 3 5 7 8 9 Y<|ZA<|Rm Y<|Rq Y (Zm (ov Y) Y Y Zfe)<|Rq Y (Zl (ov Y) Y Y Y tS3 Y)<|R2 Qk Y<|Ra Y<|Za<|K4 3 7 8 9 Y<|ZA<|R2 Qk Y<|Rm Y<|Za<|⟨_, h, ES []⟩
  ·
   refine ZE<|?_
   replace h := lx h ▸ ho1
   exact ⟨_, h, ES []⟩
 ·
  refine Tr<|Rm Y<|Ra Y<|Za<|?_
  obtain rfl := rt h
  exact Zi (Zs Y (.one<|rb Y))
theorem Zex {p : api_Param} {r : Int} (h : Jl p = some r) :
 CSpec Try.prog gl0 43 [.agg [.str p.Name, .int .i64 p.Kind, .sl 64 (List.map R64 p.Parts), .int .i64 p.First, .int .i64 p.Every, .int .i64 p.Times, .int .i64 p.Step, .sl 9 (List.map R9 p.Names)]] (.int .i64 r) := by
 unfold Jl at h
 replace h := Qh h
 refine So Try.func43 Y fun w0 A=>Tr<|Rq Y (Z9 (cva<|ov Y) Y tZ_44 Y)<|Ra Y<|Za<|Zh<|K1 1 Y<|Tr<|Rq Y (Zc (ov Y) ZaL)<|Rq Y (Zb (ov Y) ZeH Y)<|Rl tZ_64 ZbB Y<|R2 Xa Y<|Za<|K2 1 8 Y<|If h Y (fun h=>?_) fun h=>?_
 ·
  refine K0<|Tr<|Ra Y<|Za<|?_
  obtain rfl := rt h
  exact Zi (Zs Y (.one<|rb Y))
 ·
  refine Ze<|Zh<|K1 1 Y<|Tr<|Rq Y (Zc (ov Y) ZaL)<|Rq Y (Zb (ov Y) ZeH Y)<|Rl tZ_64 ZbB Y<|R2 Jj Y<|Za<|K2 1 12 Y<|If h Y (fun h=>?_) fun h=>?_
  ·
   refine K0<|Tr<|Ra Y<|Za<|?_
   obtain rfl := rt h
   exact Zi (Zs Y (.one<|rb Y))
  ·
   refine Ze<|J0 (fun j => (.inr j)) ⟨[(1, .rp [.str p.Name, .int .i64 p.Kind, .sl 64 (List.map R64 p.Parts), .int .i64 p.First, .int .i64 p.Every, .int .i64 p.Times, .int .i64 p.Step, .sl 9 (List.map R9 p.Names)] 0)], []⟩ h (fun h=>?_) fun h=>?_
   ·
    refine K1 1 Y<|Tr<|Rq Y (Zc (ov Y) ZaL)<|Rq Y (Zb (ov Y) ZeH Y)<|Rl tZ_64 ZbB Y<|Rm Y<|Za<|Zf<|?_
    obtain ⟨r1, hl1, ho1⟩ := QS h
    refine L1 (fun i=>⟨[(1, .rp [.str p.Name, .int .i64 p.Kind, .sl 64 (List.map R64 p.Parts), .int .i64 p.First, .int .i64 p.Every, .int .i64 p.Times, .int .i64 p.Step, .sl 9 (List.map R9 p.Names)] 0), (14, .sl 64 (List.map R64 p.Parts)), (15, .int .i64 (p.Parts.length : Int)), (16, .int .i64 i)], []⟩) hl1 (ES []) fun n1 i h=>?_
    unfold Jb at h
    refine Tr<|R2 ZK Y<|Za<|Zh<|If h Y (fun h=>?_) fun h=>?_
    ·
     refine Ze<|Zh<|Zf<|K4 1 14 15 16 Y<|Tr<|bE h fun x h_x h=>Rq Y (ZF (ov Y) (ov Y) ZbB h_x)<|Rq Y (Zg (ov Y) Zcr Y Y)<|Rx Y (Zr (row := [_, _, _, _]) 0 Y ZgF Y tZ_64)<|Rx Y (Zk (ov Y) (ov Y) (Zj Zcr Y) Y Y Y (Nat.le_of_ble_eq_true Y) (Zd Y) Y)<|Za<|K5 1 4 14 15 16 Y<|Tr<|Rq Y (Zm (ov Y) Y Y Zfj)<|Rq Y (Zl (ov Y) Y Y Y tS3 Y)<|bE h fun y h_y h=>Rq Y (Zp (QP h_y)<|.cons (ov Y) (.b Y)<|.cons (ov Y) (.b Y)<|.cons (ov Y) (.b Y) .nil)<|Rm Y<|Rq Y (.guarded (y == false) Y Y Y Y fun h => Zm (ov Y) Y Y Zfp)<|Rq Y (.guarded (y == false) Y Y Y Y fun h => Zl (ow Y h) Y Y Y tS3 Y)<|bE h fun y2 h_y2 h=>Rq Y (.guarded (y == false) Y Y Y Y fun h => Zp (QP<|gdT h_y2 h)<|.cons (ow Y h) (.b Y)<|.cons (ov Y) (.b Y)<|.cons (ov Y) (.b Y) .nil)<|Rq Y (XQ (ov Y) fun hp=>ow Y<|gF hp)<|Rm Y<|Rq Y (.guarded ((y || y2) == false) Y Y Y Y fun h => Zm (ov Y) Y Y Zfm)<|Rq Y (.guarded ((y || y2) == false) Y Y Y Y fun h => Zl (ow Y h) Y Y Y tS3 Y)<|bE h fun y3 h_y3 h=>Rq Y (.guarded ((y || y2) == false) Y Y Y Y fun h => Zp (QP<|gdT h_y3 h)<|.cons (ow Y h) (.b Y)<|.cons (ov Y) (.b Y)<|.cons (ov Y) (.b Y) .nil)<|Rq Y (XQ (ov Y) fun hp=>ow Y<|gF hp)<|Rm Y<|Rq Y (.guarded (((y || y2) || y3) == false) Y Y Y Y fun h => Zm (ov Y) Y Y Zfe)<|Rq Y (.guarded (((y || y2) || y3) == false) Y Y Y Y fun h => Zl (ow Y h) Y Y Y tS3 Y)<|Rq Y (.guarded (((y || y2) || y3) == false) Y Y Y Y fun h => Zm (ov Y) Y Y Zfm)<|Rq Y (.guarded (((y || y2) || y3) == false) Y Y Y Y fun h => Zl (ow Y h) Y Y Y tS3 Y)<|Rq Y (.guarded (((y || y2) || y3) == false) Y Y Y Y fun h => ZgW (ov Y) (ow Y h) Y)<|bE h fun y4 h_y4 h=>Rq Y (.guarded (((y || y2) || y3) == false) Y Y Y Y fun h => Zp (QP<|gdT h_y4 h)<|.cons (ow Y h) (.b Y)<|.cons (ov Y) (.b Y)<|.cons (ow Y h) (.b Y) .nil)<|Rq Y (XQ (ov Y) fun hp=>ow Y<|gF hp)<|Za<|K5 1 14 15 16 40 Y<|If h Y (fun h=>?_) fun h=>?_
     ·
      refine K0<|Tr<|Ra Y<|Za<|?_
      replace h := lx h ▸ ho1
      obtain rfl := rt h
      exact Zi (Zs Y (.one<|rb Y))
     ·
      exact Ze<|K4 1 14 15 16 Y<|ZA<|R2 Qk Y<|Rm Y<|Za<|⟨_, h, ES []⟩
    ·
     refine ZE<|?_
     replace h := lx h ▸ ho1
     exact ⟨(), h, ES []⟩
   ·
    replace h := elr h
    replace h := t0i h
    refine Zh<|Tr<|Rq Y (Zg (ov Y) Xy Y Y)<|bE h fun y5 h_y5 h=>Rq Y (Zp (Zey h_y5)<|.cons (ov Y) (.aggB Y) .nil)<|R2 Jj Y<|Za<|K1 44 Y<|If h Y (fun h=>?_) fun h=>?_
    ·
     refine K0<|Tr<|Ra Y<|Za<|?_
     obtain rfl := rt h
     exact Zi (Zs Y (.one<|rb Y))
    ·
     refine Ze<|K0<|Tr<|Ra Y<|Za<|?_
     obtain rfl := rt h
     exact Zi (Zs Y (.one<|rb Y))
theorem Zed {p : api_Param} {r : Int} (h : Jg p = some r) :
 CSpec Try.prog gl0 44 [.agg [.str p.Name, .int .i64 p.Kind, .sl 64 (List.map R64 p.Parts), .int .i64 p.First, .int .i64 p.Every, .int .i64 p.Times, .int .i64 p.Step, .sl 9 (List.map R9 p.Names)]] (.int .i64 r) := by
 unfold Jg at h
 replace h := Qh h
 refine So Try.func44 Y fun w0 A=>Tr<|Rq Y (Z9 (cva<|ov Y) Y tZ_44 Y)<|Ra Y<|Za<|J0 (fun j => (.inr j)) ⟨[(1, .rp [.str p.Name, .int .i64 p.Kind, .sl 64 (List.map R64 p.Parts), .int .i64 p.First, .int .i64 p.Every, .int .i64 p.Times, .int .i64 p.Step, .sl 9 (List.map R9 p.Names)] 0)], []⟩ h (fun h=>?_) fun h=>?_
 ·
  refine K1 1 Y<|Tr<|Rq Y (Zc (ov Y) Ze9)<|Rq Y (Zb (ov Y) tS3 Y)<|Za<|Zf<|Zh<|K2 1 6 Y<|Tr<|R2 Xa Y<|Ra Y<|Za<|K3 1 6 7 Y<|Zj4 h Y (fun b7 h=>?_) fun b7 h=>?_
  ·
   refine Ze<|K2 1 7 Y<|If h Y (fun h=>?_) fun h=>?_
   ·
    exact Ze<|⟨(), h, ES []⟩
   ·
    refine K0<|Tr<|Ra Y<|Za<|?_
    obtain rfl := rt h
    exact Zi (Zs Y (.one<|rb Y))
  ·
   refine Tr<|R2 Xa Y<|Ra Y<|Za<|K3 1 6 7 Y<|Zj4 h Y (fun b7 h=>?_) fun b7 h=>?_
   ·
    refine Ze<|K2 1 7 Y<|If h Y (fun h=>?_) fun h=>?_
    ·
     exact Ze<|⟨(), h, ES []⟩
    ·
     refine K0<|Tr<|Ra Y<|Za<|?_
     obtain rfl := rt h
     exact Zi (Zs Y (.one<|rb Y))
   ·
    refine Tr<|R2 Xa Y<|Ra Y<|Za<|K3 1 6 7 Y<|Zj4 h Y (fun b7 h=>?_) fun b7 h=>?_
    ·
     refine Ze<|K2 1 7 Y<|If h Y (fun h=>?_) fun h=>?_
     ·
      exact Ze<|⟨(), h, ES []⟩
     ·
      refine K0<|Tr<|Ra Y<|Za<|?_
      obtain rfl := rt h
      exact Zi (Zs Y (.one<|rb Y))
    ·
     refine Tr<|R2 Xa Y<|Ra Y<|Za<|K3 1 6 7 Y<|Zj4 h Y (fun b7 h=>?_) fun b7 h=>?_
     ·
      refine Ze<|K2 1 7 Y<|If h Y (fun h=>?_) fun h=>?_
      ·
       exact Ze<|⟨(), h, ES []⟩
      ·
       refine K0<|Tr<|Ra Y<|Za<|?_
       obtain rfl := rt h
       exact Zi (Zs Y (.one<|rb Y))
     ·
      refine ZA<|R2 Xa Y<|Ra Y<|Za<|K2 1 7 Y<|If h Y (fun h=>?_) fun h=>?_
      ·
       exact Ze<|⟨(), h, ES []⟩
      ·
       refine K0<|Tr<|Ra Y<|Za<|?_
       obtain rfl := rt h
       exact Zi (Zs Y (.one<|rb Y))
 ·
  replace h := elr h
  replace h := t0i h
  refine Zh<|Tr<|Rq Y (Zc (ov Y) Zg9)<|Rq Y (Zb (ov Y) tS3 Y)<|Rq Y (Zc (ov Y) Ze9)<|Rq Y (Zb (ov Y) tS3 Y)<|R2 ZcG Y<|bE h fun y h_y h=>Rq Y (Zp (QP h_y)<|.cons (ov Y) (.b Y)<|.cons (ov Y) (.b Y)<|.cons (ov Y) (.b Y) .nil)<|Rm Y<|Rq Y (.guarded (y == false) Y Y Y Y fun h => Zc (ov Y) Zcj)<|Rq Y (.guarded (y == false) Y Y Y Y fun h => Zb (ow Y h) tS3 Y)<|bE h fun y2 h_y2 h=>Rq Y (.guarded (y == false) Y Y Y Y fun h => Zp (QP<|gdT h_y2 h)<|.cons (ow Y h) (.b Y)<|.cons (ov Y) (.b Y)<|.cons (ov Y) (.b Y) .nil)<|Rq Y (XQ (ov Y) fun hp=>ow Y<|gF hp)<|Rm Y<|Rq Y (.guarded ((y || y2) == false) Y Y Y Y fun h => Zc (ov Y) Zch)<|Rq Y (.guarded ((y || y2) == false) Y Y Y Y fun h => Zb (ow Y h) tS3 Y)<|Rq Y (.guarded ((y || y2) == false) Y Y Y Y fun h => ZK (ow Y h)<|ov Y)<|Rq Y (XQ (ov Y) fun hp=>ow Y<|gF hp)<|Rm Y<|Rq Y (.guarded (((y || y2) || (decide (p.Step < 0))) == false) Y Y Y Y fun h => Zc (ov Y) Zch)<|Rq Y (.guarded (((y || y2) || (decide (p.Step < 0))) == false) Y Y Y Y fun h => Zb (ow Y h) tS3 Y)<|Rq Y (.guarded (((y || y2) || (decide (p.Step < 0))) == false) Y Y Y Y fun h => Xa (ow Y h)<|ov Y)<|Rq Y (.guarded (((y || y2) || (decide (p.Step < 0))) == false) Y Y Y Y fun h => Zc (ov Y) Zcj)<|Rq Y (.guarded (((y || y2) || (decide (p.Step < 0))) == false) Y Y Y Y fun h => Zb (ow Y h) tS3 Y)<|Rq Y (.guarded (((y || y2) || (decide (p.Step < 0))) == false) Y Y Y Y fun h => Xa (ow Y h)<|ov Y)<|Rq Y (.guarded (((y || y2) || (decide (p.Step < 0))) == false) Y Y Y Y fun h => ZhM .neq (by simp) (ow Y h) (ow Y h) tB4)<|Rq Y (XQ (ov Y) fun hp=>ow Y<|gF hp)<|Za<|K2 1 37 Y<|If h Y (fun h=>?_) fun h=>?_
  ·
   refine K0<|Tr<|Ra Y<|Za<|?_
   obtain rfl := rt h
   exact Zi (Zs Y (.one<|rb Y))
  ·
   refine Ze<|J0 (fun j => (.inr j)) ⟨[], []⟩ h (fun h=>?_) fun h=>?_
   ·
    refine K1 1 Y<|Tr<|Rq Y (Zc (ov Y) ZaL)<|Rq Y (Zb (ov Y) ZeH Y)<|Rl tZ_64 ZbB Y<|Rm Y<|Za<|Zf<|?_
    obtain ⟨r1, hl1, ho1⟩ := QS h
    refine L1 (fun i=>⟨[(1, .rp [.str p.Name, .int .i64 p.Kind, .sl 64 (List.map R64 p.Parts), .int .i64 p.First, .int .i64 p.Every, .int .i64 p.Times, .int .i64 p.Step, .sl 9 (List.map R9 p.Names)] 0), (39, .sl 64 (List.map R64 p.Parts)), (40, .int .i64 (p.Parts.length : Int)), (41, .int .i64 i)], []⟩) hl1 (ES []) fun n1 i h=>?_
    unfold Xm at h
    refine Tr<|R2 ZK Y<|Za<|Zh<|If h Y (fun h=>?_) fun h=>?_
    ·
     refine Ze<|Zh<|Zf<|K4 1 39 40 41 Y<|Tr<|bE h fun x h_x h=>Rq Y (ZF (ov Y) (ov Y) ZbB h_x)<|Rq Y (Zg (ov Y) Zcr Y Y)<|Rx Y (Zr (row := [_, _, _, _]) 0 Y ZgF Y tZ_64)<|Rx Y (Zk (ov Y) (ov Y) (Zj Zcr Y) Y Y Y (Nat.le_of_ble_eq_true Y) (Zd Y) Y)<|Za<|K5 1 4 39 40 41 Y<|Tr<|Rq Y (Zc (ov Y) Zcj)<|Rq Y (Zb (ov Y) tS3 Y)<|R2 Jj Y<|Rm Y<|Rq Y (.guarded ((decide (1 < p.Times)) == true) Y Y Y Y fun h => Zc (ov Y) Zch)<|Rq Y (.guarded ((decide (1 < p.Times)) == true) Y Y Y Y fun h => Zb (ow Y h) tS3 Y)<|Rq Y (.guarded ((decide (1 < p.Times)) == true) Y Y Y Y fun h => Jj (ow Y h)<|ov Y)<|Rq Y (Jc (ov Y) fun hp=>ow Y<|gT hp)<|Rm Y<|Rq Y (.guarded (((decide (1 < p.Times)) && (decide (57 < p.Step))) == false) Y Y Y Y fun h => Zm (ov Y) Y Y Zfp)<|Rq Y (.guarded (((decide (1 < p.Times)) && (decide (57 < p.Step))) == false) Y Y Y Y fun h => Zl (ow Y h) Y Y Y tS3 Y)<|Rq Y (.guarded (((decide (1 < p.Times)) && (decide (57 < p.Step))) == false) Y Y Y Y fun h => Zc (ov Y) Zcj)<|Rq Y (.guarded (((decide (1 < p.Times)) && (decide (57 < p.Step))) == false) Y Y Y Y fun h => Zb (ow Y h) tS3 Y)<|Rq Y (.guarded (((decide (1 < p.Times)) && (decide (57 < p.Step))) == false) Y Y Y Y fun h => ZgW (ow Y h) (ov Y) Y)<|Rq Y (.guarded (((decide (1 < p.Times)) && (decide (57 < p.Step))) == false) Y Y Y Y fun h => Zc (ov Y) Zch)<|Rq Y (.guarded (((decide (1 < p.Times)) && (decide (57 < p.Step))) == false) Y Y Y Y fun h => Zb (ow Y h) tS3 Y)<|Rq Y (.guarded (((decide (1 < p.Times)) && (decide (57 < p.Step))) == false) Y Y Y Y fun h => ZjH (ow Y h) (ow Y h) Y)<|Rq Y (.guarded (((decide (1 < p.Times)) && (decide (57 < p.Step))) == false) Y Y Y Y fun h => Zix (ow Y h) (ow Y h) Y)<|Rq Y (.guarded (((decide (1 < p.Times)) && (decide (57 < p.Step))) == false) Y Y Y Y fun h => Jj (ow Y h)<|ov Y)<|Rq Y (XQ (ov Y) fun hp=>ow Y<|gF hp)<|Za<|K5 1 39 40 41 64 Y<|If h Y (fun h=>?_) fun h=>?_
     ·
      refine K0<|Tr<|Ra Y<|Za<|?_
      replace h := lx h ▸ ho1
      obtain rfl := rt h
      exact Zi (Zs Y (.one<|rb Y))
     ·
      exact Ze<|K4 1 39 40 41 Y<|ZA<|R2 Qk Y<|Rm Y<|Za<|⟨_, h, ES []⟩
    ·
     refine ZE<|?_
     replace h := lx h ▸ ho1
     exact ⟨(), h, ES []⟩
   ·
    replace h := elr h
    replace h := t0i h
    refine Tr<|Ra Y<|Za<|?_
    obtain rfl := rt h
    exact Zi (Zs Y (.one<|rb Y))
theorem ZeL {p : api_Param} {r : Int} (h : JE p = some r) :
 CSpec Try.prog gl0 45 [.agg [.str p.Name, .int .i64 p.Kind, .sl 64 (List.map R64 p.Parts), .int .i64 p.First, .int .i64 p.Every, .int .i64 p.Times, .int .i64 p.Step, .sl 9 (List.map R9 p.Names)]] (.int .i64 r) := by
 unfold JE at h
 replace h := Qh h
 refine So Try.func45 Y fun w0 A=>Tr<|Rq Y (Z9 (cva<|ov Y) Y tZ_44 Y)<|Ra Y<|Za<|K1 1 Y<|Tr<|Rq Y (Zg (ov Y) Xy Y Y)<|bE h fun y h_y h=>Rq Y (Zp (Zey h_y)<|.cons (ov Y) (.aggB Y) .nil)<|Ra Y<|Za<|Zh<|K2 1 3 Y<|Tr<|Rq Y (Zc (ov Y) Zbk)<|Rq Y (Zb (ov Y) tS3 Y)<|R2 Xa Y<|Rm Y<|Rq Y (.guarded ((decide (p.Kind = 4)) == true) Y Y Y Y fun h => Zv<|ov Y)<|bE h fun q h_q h=>Rq Y (.guarded ((decide (p.Kind = 4)) == true) Y Y Y Y fun h => Zim (ow Y h) (ov Y)<|gdT h_q h)<|Rq Y (.guarded ((decide (p.Kind = 4)) == true) Y Y Y Y fun h => QY (ow Y h)<|ov Y)<|Rq Y (Jc (ov Y) fun hp=>ow Y<|gT hp)<|Rm Y<|Rq Y (.guarded (((decide (p.Kind = 4)) && (!decide (q = 0))) == false) Y Y Y Y fun h => Zc (ov Y) Zbk)<|Rq Y (.guarded (((decide (p.Kind = 4)) && (!decide (q = 0))) == false) Y Y Y Y fun h => Zb (ow Y h) tS3 Y)<|Rq Y (.guarded (((decide (p.Kind = 4)) && (!decide (q = 0))) == false) Y Y Y Y fun h => Xa (ow Y h)<|ov Y)<|Rq Y (.guarded (((decide (p.Kind = 4)) && (!decide (q = 0))) == false) Y Y Y Y fun h => Zv<|ow Y h)<|Rq Y (.guarded2 ((((decide (p.Kind = 4)) && (!decide (q = 0))) == false) && ((decide (p.Kind = 5)) == true)) Y Y Y Y fun h => Zv<|ov Y)<|Rq Y (.guarded2 ((((decide (p.Kind = 4)) && (!decide (q = 0))) == false) && ((decide (p.Kind = 5)) == true)) Y Y Y Y fun h => QY (ow Y h)<|ov Y)<|Rq Y (.guarded (((decide (p.Kind = 4)) && (!decide (q = 0))) == false) Y Y Y Y fun h => Jc (ow Y h) fun hp=>ow Y<|gA h<|gT hp)<|Rq Y (XQ (ov Y) fun hp=>ow Y<|gF hp)<|Rm Y<|Rq Y (.guarded ((((decide (p.Kind = 4)) && (!decide (q = 0))) || ((decide (p.Kind = 5)) && (!decide (y = 1)))) == false) Y Y Y Y fun h => Zc (ov Y) Zbk)<|Rq Y (.guarded ((((decide (p.Kind = 4)) && (!decide (q = 0))) || ((decide (p.Kind = 5)) && (!decide (y = 1)))) == false) Y Y Y Y fun h => Zb (ow Y h) tS3 Y)<|Rq Y (.guarded ((((decide (p.Kind = 4)) && (!decide (q = 0))) || ((decide (p.Kind = 5)) && (!decide (y = 1)))) == false) Y Y Y Y fun h => Xa (ow Y h)<|ov Y)<|Rq Y (.guarded ((((decide (p.Kind = 4)) && (!decide (q = 0))) || ((decide (p.Kind = 5)) && (!decide (y = 1)))) == false) Y Y Y Y fun h => Zv<|ow Y h)<|Rq Y (.guarded2 (((((decide (p.Kind = 4)) && (!decide (q = 0))) || ((decide (p.Kind = 5)) && (!decide (y = 1)))) == false) && ((decide (p.Kind = 2)) == false)) Y Y Y Y fun h => Zc (ov Y) Zbk)<|Rq Y (.guarded2 (((((decide (p.Kind = 4)) && (!decide (q = 0))) || ((decide (p.Kind = 5)) && (!decide (y = 1)))) == false) && ((decide (p.Kind = 2)) == false)) Y Y Y Y fun h => Zb (ow Y h) tS3 Y)<|Rq Y (.guarded2 (((((decide (p.Kind = 4)) && (!decide (q = 0))) || ((decide (p.Kind = 5)) && (!decide (y = 1)))) == false) && ((decide (p.Kind = 2)) == false)) Y Y Y Y fun h => Xa (ow Y h)<|ov Y)<|Rq Y (.guarded ((((decide (p.Kind = 4)) && (!decide (q = 0))) || ((decide (p.Kind = 5)) && (!decide (y = 1)))) == false) Y Y Y Y fun h => XQ (ow Y h) fun hp=>ow Y<|gA h<|gF hp)<|Rq Y (.guarded ((((decide (p.Kind = 4)) && (!decide (q = 0))) || ((decide (p.Kind = 5)) && (!decide (y = 1)))) == false) Y Y Y Y fun h => Zv<|ow Y h)<|Rq Y (.guarded2 (((((decide (p.Kind = 4)) && (!decide (q = 0))) || ((decide (p.Kind = 5)) && (!decide (y = 1)))) == false) && (((decide (p.Kind = 2)) || (decide (p.Kind = 3))) == true)) Y Y Y Y fun h => Zv<|ov Y)<|Rq Y (.guarded2 (((((decide (p.Kind = 4)) && (!decide (q = 0))) || ((decide (p.Kind = 5)) && (!decide (y = 1)))) == false) && (((decide (p.Kind = 2)) || (decide (p.Kind = 3))) == true)) Y Y Y Y fun h => Xa (ow Y h)<|ov Y)<|Rq Y (.guarded ((((decide (p.Kind = 4)) && (!decide (q = 0))) || ((decide (p.Kind = 5)) && (!decide (y = 1)))) == false) Y Y Y Y fun h => Jc (ow Y h) fun hp=>ow Y<|gA h<|gT hp)<|Rq Y (XQ (ov Y) fun hp=>ow Y<|gF hp)<|Za<|K3 1 3 40 Y<|If h Y (fun h=>?_) fun h=>?_
 ·
  refine K0<|Tr<|Ra Y<|Za<|?_
  obtain rfl := rt h
  exact Zi (Zs Y (.one<|rb Y))
 ·
  refine Ze<|Zh<|K2 1 3 Y<|Tr<|Rq Y (Zc (ov Y) Zbk)<|Rq Y (Zb (ov Y) tS3 Y)<|R2 QY Y<|Za<|K3 1 3 43 Y<|If h Y (fun h=>?_) fun h=>?_
  ·
   refine Zh<|K1 1 Y<|Tr<|Rq Y (Zc (ov Y) Za9)<|Rq Y (Zb (ov Y) Zfa Y)<|Rl tZ_9 ZcU Y<|R2 Jj Y<|Za<|K1 47 Y<|If h Y (fun h=>?_) fun h=>?_
   ·
    refine K0<|Tr<|Ra Y<|Za<|?_
    obtain rfl := rt h
    exact Zi (Zs Y (.one<|rb Y))
   ·
    refine Ze<|K0<|Tr<|Ra Y<|Za<|?_
    obtain rfl := rt h
    exact Zi (Zs Y (.one<|rb Y))
  ·
   refine Ze<|Zh<|K2 1 3 Y<|Tr<|Rq Y (Zc (ov Y) Za9)<|Rq Y (Zb (ov Y) Zfa Y)<|Rl tZ_9 ZcU Y<|R2 Xa Y<|Za<|K3 1 3 51 Y<|If h Y (fun h=>?_) fun h=>?_
   ·
    refine K0<|Tr<|Ra Y<|Za<|?_
    obtain rfl := rt h
    exact Zi (Zs Y (.one<|rb Y))
   ·
    refine Ze<|Zh<|K2 1 3 Y<|Td md0<|Dq 0 Y (Zc (ov Y) Za9)<|Dq 1 Y (Zb (ov Y) Zfa Y)<|Dq 2 Y (Zd8 (X4 (ov Y) tZ_9) ZcU<|Zbm _ _)<|D2 3 Jj Y<|D1 4 Zv Y<|Dq 5 Y (.guarded ((decide (64 < (p.Names.length : Int))) == false) Y Y Y Y fun h => Zc (ov Y) Za9)<|Dq 6 Y (.guarded ((decide (64 < (p.Names.length : Int))) == false) Y Y Y Y fun h => Zb (ow Y h) Zfa Y)<|Dq 7 Y (.guarded ((decide (64 < (p.Names.length : Int))) == false) Y Y Y Y fun h => Zd8 (X4 (ow Y h) tZ_9) ZcU<|Zbm _ _)<|Dq 8 Y (.guarded ((decide (64 < (p.Names.length : Int))) == false) Y Y Y Y fun h => Zv<|ov Y)<|bE h fun q2 h_q2 h=>Dq 9 Y (.guarded ((decide (64 < (p.Names.length : Int))) == false) Y Y Y Y fun h => Zdx (ov Y) (ow Y h)<|gdT h_q2 h)<|Dq 10 Y (.guarded ((decide (64 < (p.Names.length : Int))) == false) Y Y Y Y fun h => Jj (ow Y h)<|ow Y h)<|Dq 11 Y (XQ (ov Y) fun hp=>ow Y<|gF hp)<|Dd<|K2 1 63 Y<|If h Y (fun h=>?_) fun h=>?_
    ·
     refine K0<|Tr<|Ra Y<|Za<|?_
     obtain rfl := rt h
     exact Zi (Zs Y (.one<|rb Y))
    ·
     refine Ze<|J0 (fun j => (.inr j)) ⟨[], []⟩ h (fun h=>?_) fun h=>?_
     ·
      refine K1 1 Y<|Tr<|Rq Y (Zc (ov Y) Za9)<|Rq Y (Zb (ov Y) Zfa Y)<|Rl tZ_9 ZcU Y<|Rm Y<|Za<|Zf<|?_
      obtain ⟨r1, hl1, ho1⟩ := QS h
      refine L1 (fun i=>⟨[(1, .rp [.str p.Name, .int .i64 p.Kind, .sl 64 (List.map R64 p.Parts), .int .i64 p.First, .int .i64 p.Every, .int .i64 p.Times, .int .i64 p.Step, .sl 9 (List.map R9 p.Names)] 0), (65, .sl 9 (List.map R9 p.Names)), (66, .int .i64 (p.Names.length : Int)), (67, .int .i64 i)], []⟩) hl1 (ES []) fun n1 i h=>?_
      unfold XH at h
      refine Tr<|R2 ZK Y<|Za<|Zh<|If h Y (fun h=>?_) fun h=>?_
      ·
       refine Ze<|J0 (fun j => (.inr j)) ⟨[(1, .rp [.str p.Name, .int .i64 p.Kind, .sl 64 (List.map R64 p.Parts), .int .i64 p.First, .int .i64 p.Every, .int .i64 p.Times, .int .i64 p.Step, .sl 9 (List.map R9 p.Names)] 0), (65, .sl 9 (List.map R9 p.Names)), (66, .int .i64 (p.Names.length : Int)), (67, .int .i64 i)], []⟩ h (fun h=>?_) fun h=>?_
       ·
        refine Zf<|K4 1 65 66 67 Y<|Tr<|Rm Y<|bE h fun x h_x h=>Rq Y (ZF (ov Y) (ov Y) ZcU h_x)<|Rq Y (Zb (ov Y) tS9 Y)<|Ra Y<|Ra Y<|Za<|Zh<|K6 1 4 5 65 66 67 Y<|Tr<|Rm Y<|bE h fun y2 h_y2 h=>Rq Y (Zp (ZdK h_y2)<|.cons (ov Y) (.b Y) .nil)<|R1 XN Y<|Za<|K7 1 4 5 65 66 67 74 Y<|If h Y (fun h=>?_) fun h=>?_
        ·
         refine K0<|Tr<|Ra Y<|Za<|?_
         replace h := lx h ▸ ho1
         obtain rfl := rt h
         exact Zi (Zs Y (.one<|rb Y))
        ·
         refine Ze<|K6 1 4 5 65 66 67 Y<|Tr<|Rq Y (Zc (ov Y) Za9)<|Rq Y (Zb (ov Y) Zfa Y)<|Rm Y<|bE h fun l h_l h=>Rq Y (ZeA (ov Y) ZcU on (oi<|ov Y) h_l)<|Rl tZ_9 ZcU Y<|Rm Y<|Za<|Zf<|?_
         obtain ⟨r2, hl2, ho2⟩ := QS h
         refine L1 (fun i2=>⟨[(1, .rp [.str p.Name, .int .i64 p.Kind, .sl 64 (List.map R64 p.Parts), .int .i64 p.First, .int .i64 p.Every, .int .i64 p.Times, .int .i64 p.Step, .sl 9 (List.map R9 p.Names)] 0), (5, .str x), (65, .sl 9 (List.map R9 p.Names)), (66, .int .i64 (p.Names.length : Int)), (67, .int .i64 i), (78, .sl 9 (List.map R9 l)), (79, .int .i64 (l.length : Int)), (80, .int .i64 i2)], []⟩) hl2 (ES []) fun n2 i2 h=>?_
         unfold XG at h
         refine Tr<|R2 ZK Y<|Za<|Zh<|If h Y (fun h=>?_) fun h=>?_
         ·
          refine Ze<|Zh<|Zf<|K8 1 5 65 66 67 78 79 80 Y<|Tr<|bE h fun x2 h_x2 h=>Rq Y (ZF (ov Y) (ov Y) ZcU h_x2)<|Rq Y (Zb (ov Y) tS9 Y)<|Ra Y<|Za<|K9 1 5 7 65 66 67 78 79 80 Y<|Tr<|Rm Y<|Rm Y<|R2 ZeV Y<|Za<|K9 1 5 65 66 67 78 79 80 86 Y<|If h Y (fun h=>?_) fun h=>?_
          ·
           refine K0<|Tr<|Ra Y<|Za<|?_
           replace h := lx h ▸ ho2
           replace h := lx h ▸ ho1
           obtain rfl := rt h
           exact Zi (Zs Y (.one<|rb Y))
          ·
           exact Ze<|K8 1 5 65 66 67 78 79 80 Y<|ZA<|R2 Qk Y<|Rm Y<|Za<|⟨_, h, ES []⟩
         ·
          refine ZE<|?_
          replace h := lx h ▸ ho2
          exact ⟨(), h, ES []⟩
       ·
        replace h := elr h
        replace h := t0i h
        exact ZA<|R2 Qk Y<|Rm Y<|Za<|⟨_, h, ES []⟩
      ·
       refine ZE<|?_
       replace h := lx h ▸ ho1
       exact ⟨(), h, ES []⟩
     ·
      replace h := elr h
      replace h := t0i h
      refine Tr<|Ra Y<|Za<|?_
      obtain rfl := rt h
      exact Zi (Zs Y (.one<|rb Y))
theorem Zbr {p : api_Param} {number : Int} {r : (List api_Cell)} (h : X2 p number = some r) :
 CSpec Try.prog gl0 21 [.agg [.str p.Name, .int .i64 p.Kind, .sl 64 (List.map R64 p.Parts), .int .i64 p.First, .int .i64 p.Every, .int .i64 p.Times, .int .i64 p.Step, .sl 9 (List.map R9 p.Names)], .int .i64 number] (.sl 34 (List.map R34 r)) := by
 unfold X2 at h
 replace h := Qh h
 refine So Try.func21 Y fun w0 A=>Tr<|Rq Y (Z9 (cva<|ov Y) Y tZ_44 Y)<|Ra Y<|Za<|K2 1 2 Y<|Tr<|Ra Y<|Za<|I1 (fun out=>⟨[(5, .own 0 out.length)], [some ⟨34, List.map R34 out⟩]⟩) h (fun h=>?_) fun out h=>?_
 ·
  refine Tr<|Rq Y (Zc (ov Y) Zg9)<|Rq Y (Zb (ov Y) tS3 Y)<|Ra Y<|Za<|Zf<|?_
  obtain ⟨r1, hl1, ho1⟩ := QS h
  refine L2 (fun out2 f=>⟨[(1, .int .i64 number), (2, .rp [.str p.Name, .int .i64 p.Kind, .sl 64 (List.map R64 p.Parts), .int .i64 p.First, .int .i64 p.Every, .int .i64 p.Times, .int .i64 p.Step, .sl 9 (List.map R9 p.Names)] 0), (5, .own 0 out2.length), (6, .int .i64 f)], [some ⟨34, List.map R34 out2⟩]⟩) hl1 (ES [none]) fun n1 out2 f h=>?_
  unfold Xf at h
  refine Zh<|Tr<|Rm Y<|R2 ZK Y<|Za<|K5 1 2 5 6 17 Y<|If h Y (fun h=>?_) fun h=>?_
  ·
   refine Ze<|I1 (fun out3=>⟨[(1, .int .i64 number), (2, .rp [.str p.Name, .int .i64 p.Kind, .sl 64 (List.map R64 p.Parts), .int .i64 p.First, .int .i64 p.Every, .int .i64 p.Times, .int .i64 p.Step, .sl 9 (List.map R9 p.Names)] 0), (5, .own 0 out3.length), (6, .int .i64 f)], [some ⟨34, List.map R34 out3⟩]⟩) h (fun h=>?_) fun out3 h=>?_
   ·
    refine Zf<|K4 1 2 5 6 Y<|Tr<|Ra Y<|Za<|I1 (fun Js=>⟨[(1, .int .i64 number), (2, .rp [.str p.Name, .int .i64 p.Kind, .sl 64 (List.map R64 p.Parts), .int .i64 p.First, .int .i64 p.Every, .int .i64 p.Times, .int .i64 p.Step, .sl 9 (List.map R9 p.Names)] 0), (5, .own 0 out2.length), (6, .int .i64 f), (7, .bool Js)], [some ⟨34, List.map R34 out2⟩]⟩) h (fun h=>?_) fun Js h=>?_
    ·
     refine Tr<|Rq Y (Zc (ov Y) ZaL)<|Rq Y (Zb (ov Y) ZeH Y)<|Rl tZ_64 ZbB Y<|Rm Y<|Za<|Zf<|?_
     obtain ⟨r2, hl2, ho2⟩ := QS h
     refine L2 (fun inside2 i=>⟨[(1, .int .i64 number), (2, .rp [.str p.Name, .int .i64 p.Kind, .sl 64 (List.map R64 p.Parts), .int .i64 p.First, .int .i64 p.Every, .int .i64 p.Times, .int .i64 p.Step, .sl 9 (List.map R9 p.Names)] 0), (5, .own 0 out2.length), (6, .int .i64 f), (7, .bool inside2), (23, .sl 64 (List.map R64 p.Parts)), (24, .int .i64 (p.Parts.length : Int)), (25, .int .i64 i)], [some ⟨34, List.map R34 out2⟩]⟩) hl2 (ES [some 0]) fun n2 inside2 i h=>?_
     unfold Jn at h
     refine Tr<|R2 ZK Y<|Za<|Zh<|If h Y (fun h=>?_) fun h=>?_
     ·
      exact Ze<|Zh<|Zf<|K8 1 2 5 6 7 23 24 25 Y<|Tr<|bE h fun x h_x h=>Rq Y (ZF (ov Y) (ov Y) ZbB h_x)<|Rq Y (Zg (ov Y) Zcr Y Y)<|Rx Y (Zr (row := [_, _, _, _]) 1 Y ZgF Y tZ_64)<|Rx Y (Zk (ov Y) (ov Y) (Zj Zcr Y) Y Y Y (Nat.le_of_ble_eq_true Y) (Zd Y) Y)<|Za<|K9 1 2 5 6 7 9 23 24 25 Y<|ZA<|Rm Y<|Rm Y<|Rq Y (.guarded (inside2 == true) Y Y Y Y fun h => Zv<|ov Y)<|Rq Y (.guarded (inside2 == true) Y Y Y Y fun h => Zm (ov Y) Y Y Zfj)<|Rq Y (.guarded (inside2 == true) Y Y Y Y fun h => Zl (ow Y h) Y Y Y tS3 Y)<|Rq Y (.guarded (inside2 == true) Y Y Y Y fun h => Zix (ow Y h) (ow Y h) Y)<|Rq Y (.guarded (inside2 == true) Y Y Y Y fun h => ZK (ow Y h)<|ov Y)<|Rq Y (Jc (ov Y) fun hp=>ow Y<|gT hp)<|Ra Y<|Za<|K8 1 2 5 6 7 23 24 25 Y<|ZA<|R2 Qk Y<|Rm Y<|Za<|⟨_, h, ES [some 0]⟩
     ·
      refine ZE<|?_
      replace h := lx h ▸ ho2
      exact ⟨_, h, ES [some 0]⟩
    ·
     refine Tr<|Ra Y<|Za<|Zf<|?_
     obtain ⟨r3, hl3, ho3⟩ := QS h
     refine L2 (fun out4 j=>⟨[(1, .int .i64 number), (2, .rp [.str p.Name, .int .i64 p.Kind, .sl 64 (List.map R64 p.Parts), .int .i64 p.First, .int .i64 p.Every, .int .i64 p.Times, .int .i64 p.Step, .sl 9 (List.map R9 p.Names)] 0), (5, .own 0 out4.length), (6, .int .i64 f), (7, .bool Js), (10, .int .i64 j)], [some ⟨34, List.map R34 out4⟩]⟩) hl3 (ES [some 0]) fun n3 out4 j h=>?_
     unfold Jo at h
     refine Zh<|Tr<|Rm Y<|Rq Y (Zc (ov Y) Zcj)<|Rq Y (Zb (ov Y) tS3 Y)<|R2 ZK Y<|Rm Y<|Rq Y (.guarded ((decide (j < p.Times)) == true) Y Y Y Y fun h => Zv<|ov Y)<|Rq Y (Jc (ov Y) fun hp=>ow Y<|gT hp)<|Za<|K7 1 2 5 6 7 10 44 Y<|If h Y (fun h=>?_) fun h=>?_
     ·
      refine Ze<|Zh<|Zf<|K6 1 2 5 6 7 10 Y<|Tr<|Rm Y<|Rm Y<|Rq Y (Zju (ov Y) Y Y Zar)<|Rm Y<|Rq Y (Jv (ys := [_, _, _, _]) Zk3 Zk4 Zfr (.cons (cvs (ov Y)<|Zq Y)<|.cons (cvs (ov Y)<|Zq Y)<|.cons (cvs (ov Y)<|Zq Y) .nil) Y)<|Rx Y (Zr (row := [_, _, _, _]) 1 Y Zfr Y tZ_34)<|Rx Y (Zk (ov Y) (ov Y) (Zj ZbD Y) Y Y Y (Nat.le_of_ble_eq_true Y) (Zd Y) Y)<|Za<|I1 (fun Places=>⟨[(1, .int .i64 number), (2, .rp [.str p.Name, .int .i64 p.Kind, .sl 64 (List.map R64 p.Parts), .int .i64 p.First, .int .i64 p.Every, .int .i64 p.Times, .int .i64 p.Step, .sl 9 (List.map R9 p.Names)] 0), (5, .own 0 out4.length), (6, .int .i64 f), (7, .bool Js), (10, .int .i64 j), (11, .ptr 1 1 0 0)], [some ⟨34, List.map R34 out4⟩, some ⟨34, [[.int .i64 number, .int .i64 (out4.length : Int), .int .i64 f, .own 2 Places.length]]⟩, some ⟨59, List.map R59 Places⟩]⟩) h (fun h=>?_) fun Places h=>?_
      ·
       refine K7 1 2 5 6 7 10 11 Y<|Tr<|Rq Y (Zc (ov Y) ZaL)<|Rq Y (Zb (ov Y) ZeH Y)<|Rl tZ_64 ZbB Y<|Rm Y<|Za<|Zf<|?_
       obtain ⟨r4, hl4, ho4⟩ := QS h
       refine L2 (fun Places2 i2=>⟨[(1, .int .i64 number), (2, .rp [.str p.Name, .int .i64 p.Kind, .sl 64 (List.map R64 p.Parts), .int .i64 p.First, .int .i64 p.Every, .int .i64 p.Times, .int .i64 p.Step, .sl 9 (List.map R9 p.Names)] 0), (5, .own 0 out4.length), (6, .int .i64 f), (7, .bool Js), (10, .int .i64 j), (11, .ptr 1 1 0 0), (53, .sl 64 (List.map R64 p.Parts)), (54, .int .i64 (p.Parts.length : Int)), (55, .int .i64 i2)], [some ⟨34, List.map R34 out4⟩, some ⟨34, [[.int .i64 number, .int .i64 (out4.length : Int), .int .i64 f, .own 2 Places2.length]]⟩, some ⟨59, List.map R59 Places2⟩]⟩) hl4 (ES [some 0, some 1, none]) fun n4 Places2 i2 h=>?_
       unfold Zbn at h
       refine Tr<|R2 ZK Y<|Za<|Zh<|If h Y (fun h=>?_) fun h=>?_
       ·
        exact Ze<|Zh<|Zf<|K10 1 2 5 6 7 10 11 53 54 55 Y<|Tr<|bE h fun x2 h_x2 h=>Rq Y (ZF (ov Y) (ov Y) ZbB h_x2)<|Rq Y (Zg (ov Y) Zcr Y Y)<|Rx Y (Zr (row := [_, _, _, _]) 3 Y ZgF Y tZ_64)<|Rx Y (Zk (ov Y) (ov Y) (Zj Zcr Y) Y Y Y (Nat.le_of_ble_eq_true Y) (Zd Y) Y)<|Za<|K11 1 2 5 6 7 10 11 13 53 54 55 Y<|ZA<|Rq Y (Zm (ov Y) Y Y Zbe)<|Rq Y (Zl (ov Y) Y Y Y Zfn Y)<|Rm Y<|Rq Y (Zm (ov Y) Y Y Zfj)<|Rq Y (Zl (ov Y) Y Y Y tS3 Y)<|R2 Qk Y<|Rq Y (Zm (ov Y) Y Y Zfp)<|Rq Y (Zl (ov Y) Y Y Y tS3 Y)<|Rm Y<|Rq Y (Zc (ov Y) Zch)<|Rq Y (Zb (ov Y) tS3 Y)<|R2 ZhR Y<|R2 Qk Y<|Rq Y (Zm (ov Y) Y Y Zfm)<|Rq Y (Zl (ov Y) Y Y Y tS3 Y)<|Rq Y (Zm (ov Y) Y Y Zfe)<|Rq Y (Zl (ov Y) Y Y Y tS3 Y)<|Rq Y (Jv (ys := [_, _, _, _]) Zk0 ZkX ZhT (.cons (cvs (ov Y)<|Zq Y)<|.cons (cvs (ov Y)<|Zq Y)<|.cons (cvs (ov Y)<|Zq Y)<|.cons (cvs (ov Y)<|Zq Y) .nil) Y)<|R_q (.sl 59<|List.map R59 ([(api_Place.mk (i64 (f + x2.Frame)) (i64 (x2.Word + (i64 (j * p.Step)))) x2.Low x2.Bits)] : List api_Place)) Y (ZdG ZcW (.cons (cva<|ov Y) Y (pwD Y) .nil) Y Y)<|bE h fun l h_l h=>Rx Y (Zau (ov Y) (X4 (ov Y) tZ_59) ZcW Y Y Y (fun _=>Zd Y) Y h_l)<|Rq Y (Zm (ov Y) Y Y Zbe)<|Rx Y (Zk (ov Y) (ov Y) (Qm Zfn) Y Y Y (Nat.le_of_ble_eq_true Y) (Zd Y) Y)<|Za<|K10 1 2 5 6 7 10 11 53 54 55 Y<|ZA<|R2 Qk Y<|Rm Y<|Za<|⟨_, h, ES [some 0, some 1, some 2]⟩
       ·
        refine ZE<|?_
        replace h := lx h ▸ ho4
        exact ⟨_, h, ES [some 0, some 1, some 2]⟩
      ·
       exact ZA<|Rm Y<|Rq Y (ZV (ov Y) Y Y Y ZbD Y Y)<|Zea (Ent.sel [some 0, some 1, none] (sd 1 Y Y<|sd 2 Y Y<|sr 5 Y (.own (r' := 0) _ Y)<|sd 6 Y Y<|sd 7 Y Y<|sd 10 Y Y<|sr 11 Y (.ptr (r' := 1) _ _ _ Y)<|sr 81 Y (.own (r' := 0) _ Y)<|sr 82 Y (Xd<|rlc (.dat Y)<|rlc (.dat Y)<|rlc (.dat Y)<|rlc (Zkv Y Y Y D59) rln) sn) (.cons Y (roM D34)<|.cons Y (ro1 (by exact tZ_34.symm)<|rlc (.dat Y)<|rlc (.dat Y)<|rlc (.dat Y)<|rlc (Zkv Y Y Y D59) rln)<|.row 59 .nil) Y Y)<|R_q (.sl 34<|List.map R34 ([(api_Cell.mk number (out4.length : Int) f Places)] : List api_Cell)) Y (ZdG Zar (.cons (cva<|ov Y) Y (pwD Y) .nil) Y Y)<|bE h fun l2 h_l2 h=>Rx Y (Zau (ov Y) (X4 (ov Y) tZ_34) Zar Y Y Y (fun _=>Zd Y) Y h_l2)<|Ra Y<|Za<|K6 1 2 5 6 7 10 Y<|ZA<|Rm Y<|R2 Qk Y<|Ra Y<|Za<|⟨_, h, ES [some 0]⟩
     ·
      refine ZE<|?_
      replace h := lx h ▸ ho3
      exact ⟨_, h, ES [some 0]⟩
   ·
    exact ZA<|Rm Y<|Rq Y (Zc (ov Y) Ze9)<|Rq Y (Zb (ov Y) tS3 Y)<|R2 Qk Y<|Ra Y<|Za<|⟨_, h, ES [some 0]⟩
  ·
   refine ZE<|?_
   replace h := lx h ▸ ho1
   exact ⟨_, h, ES [some 0]⟩
 ·
  refine Tr<|Rm Y<|Ra Y<|Za<|?_
  obtain rfl := rt h
  exact Zi (Zs Y (.one<|.tmp Y<|View.ownM Y Y D34))
theorem Zeq {t : List ((Vector Int 3) × Bool)} {l : List api_Place} {r : Bool × (List ((Vector Int 3) × Bool))} (h : Jf t l = some r) :
 GSpec Try.prog gl0 46 [.mref 0 1, .sl 59 (List.map R59 l)] [some ⟨54, [[.mcon (List.map (Qz Q7 FV4) t)]]⟩] (.bool r.1) [some ⟨54, [[.mcon (List.map (Qz Q7 FV4) r.2)]]⟩] := by
 unfold Jf at h
 replace h := Qh h
 refine Zez (by kernel_rfl) Try.func46 Y Y<|?_
 intro w0 A W φ0
 refine Tr<|Ra Y<|Za<|K2 0 1 Y<|Tr<|Ra Y<|Za<|I2 (fun o ok=>⟨[(5, .bool ok)], [some ⟨54, [[.mcon (List.map (Qz Q7 FV4) o)]]⟩]⟩) h (fun h=>?_) fun o ok h=>?_
 ·
  refine Tr<|Rm Y<|Rl tZ_59 ZcW Y<|Rm Y<|Za<|Zf<|?_
  obtain ⟨r1, hl1, ho1⟩ := QS h
  refine L3 (fun o2 ok2 i=>⟨[(0, .mref 0 1), (5, .bool ok2), (10, .sl 59 (List.map R59 l)), (11, .int .i64 (l.length : Int)), (12, .int .i64 i)], [some ⟨54, [[.mcon (List.map (Qz Q7 FV4) o2)]]⟩]⟩) hl1 (ES [some 0] (hhp := .cons Y (Qf (fk := Q7) (fv := FV4) (m := t) tZ_54 (fun _=>Xd<|rld<|arD fun _ => Y) fun _=>.ren<|.dat Y) .nil)) fun n1 o2 ok2 i h=>?_
  unfold QT at h
  refine Tr<|R2 ZK Y<|Za<|Zh<|If h Y (fun h=>?_) fun h=>?_
  ·
   refine Ze<|I2 (fun o3 ok3=>⟨[(0, .mref 0 1), (5, .bool ok3), (10, .sl 59 (List.map R59 l)), (11, .int .i64 (l.length : Int)), (12, .int .i64 i)], [some ⟨54, [[.mcon (List.map (Qz Q7 FV4) o3)]]⟩]⟩) h (fun h=>?_) fun o3 ok3 h=>?_
   ·
    refine Zf<|K5 0 5 10 11 12 Y<|Tr<|bE h fun x h_x h=>Rq Y (ZF (ov Y) (ov Y) ZcW h_x)<|Rq Y (Zg (ov Y) Zeg Y Y)<|Rx Y (Zr (row := [_, _, _, _]) 1 Y ZhT Y tZ_59)<|Rx Y (Zk (ov Y) (ov Y) (Zj Zeg Y) Y Y Y (Nat.le_of_ble_eq_true Y) (Zd Y) Y)<|Za<|K6 0 5 7 10 11 12 Y<|Tr<|Rq Y (Zm (ov Y) Y Y Zf5)<|Rq Y (Zl (ov Y) Y Y Y tS3 Y)<|Ra Y<|Za<|Zf<|?_
    obtain ⟨r2, hl2, ho2⟩ := QS h
    refine L3 (fun o4 ok4 b=>⟨[(0, .mref 0 1), (5, .bool ok4), (7, .ptr 1 1 0 0), (8, .int .i64 b), (10, .sl 59 (List.map R59 l)), (11, .int .i64 (l.length : Int)), (12, .int .i64 i)], [some ⟨54, [[.mcon (List.map (Qz Q7 FV4) o4)]]⟩, some ⟨59, [[.int .i64 x.Frame, .int .i64 x.Word, .int .i64 x.Low, .int .i64 x.Bits]]⟩]⟩) hl2 (ES [some 0, some 1] (hhp := .cons Y (Qf (fk := Q7) (fv := FV4) (m := o2) tZ_54 (fun _=>Xd<|rld<|arD fun _ => Y) fun _=>.ren<|.dat Y)<|.cons Y (ro1 (by exact tZ_59.symm)<|rld Y) .nil)) fun n2 o4 ok4 b h=>?_
    unfold QU at h
    refine Zh<|Tr<|Rm Y<|Rq Y (Zm (ov Y) Y Y Zf5)<|Rq Y (Zl (ov Y) Y Y Y tS3 Y)<|Rq Y (Zm (ov Y) Y Y Zel)<|Rq Y (Zl (ov Y) Y Y Y tS3 Y)<|R2 Qk Y<|R2 ZK Y<|Za<|K8 0 5 7 8 10 11 12 24 Y<|If h Y (fun h=>?_) fun h=>?_
    ·
     exact Ze<|Zh<|Zf<|K7 0 5 7 8 10 11 12 Y<|Tr<|Rq Y (Zm (ov Y) Y Y Zf7)<|Rq Y (Zl (ov Y) Y Y Y tS3 Y)<|Rq Y (Zm (ov Y) Y Y Zhe)<|Rq Y (Zl (ov Y) Y Y Y tS3 Y)<|Rm Y<|R_q (.agg<|List.map C3 (#v[x.Frame, x.Word, b] : Vector Int 3).toList) Y (ZjO (ys := [_, _, _]) Zmc ZkZ (.cons (cvs (ov Y)<|Zq Y)<|.cons (cvs (ov Y)<|Zq Y)<|.cons (cvs (ov Y)<|Zq Y) .nil) Y)<|Rx Y (Zr (row := (List.map C3 (Vector.replicate 3 0).toList)) 2 Y ZkZ Y tZ_108)<|Rx Y (Zk (ov Y) (ov Y) (Zj ZjQ arL) Y Y Y (ZcM (Z8 arL) arL) (Zd<|arC fun _ => Y)<|ZbI<|Eq.trans arL<|Eq.symm arL)<|Za<|K8 0 5 7 8 9 10 11 12 Y<|Tr<|Rm Y<|Rm Y<|Rq Y (.guarded (ok4 == true) Y Y Y Y fun h => Zv<|ov Y)<|Rq Y (.guarded (ok4 == true) Y Y Y Y fun h => ZV (ov Y) Y Y Y ZjQ (JC<|Z8 arL) arL (hns := (nsM fun _ => Y)))<|bE h fun o5 h_o5 h=>Rq Y (.guarded (ok4 == true) Y Y Y Y fun h => ZgA (m := o4) (fk := Q7) (fv := FV4) (k := (#v[x.Frame, x.Word, b] : Vector Int 3)) (z0 := false) (ow Y h) (ow Y h) Zir ZjT Y (fun _=>.aggB<|arD fun _ => Y) (Zax Zmt Y) (fun _ _=>Y)<|gdT h_o5 h)<|Rq Y (.guarded (ok4 == true) Y Y Y Y fun h => XN<|ow Y h)<|Rq Y (Jc (ov Y) fun hp=>ow Y<|gT hp)<|Ra Y<|Za<|K8 0 5 7 8 9 10 11 12 Y<|ZA<|Rm Y<|Rq Y (ZV (ov Y) Y Y Y ZjQ (JC<|Z8 arL) arL (hns := (nsM fun _ => Y)))<|Rx Y (Zf4 (m := o4) (fk := Q7) (fv := FV4) (k := (#v[x.Frame, x.Word, b] : Vector Int 3)) (v := true) (ov Y) (ov Y) (ov Y) Zir ZjT Y fun _=>.aggB<|arD fun _ => Y)<|Za<|K7 0 5 7 8 10 11 12 Y<|ZA<|Rm Y<|R2 Qk Y<|Ra Y<|Za<|⟨_, h, ES [some 0, some 1] (hhp := .cons Y (Qf (fk := Q7) (fv := FV4) (m := (ZdY kqV o4 (#v[x.Frame, x.Word, b] : Vector Int 3) true)) tZ_54 (fun _=>Xd<|rld<|arD fun _ => Y) fun _=>.ren<|.dat Y)<|.cons Y (ro1 (by exact tZ_59.symm)<|rld Y) .nil)⟩
    ·
     refine ZE<|?_
     replace h := lx h ▸ ho2
     exact ⟨_, h, ES [some 0] (hhp := .cons Y (Qf (fk := Q7) (fv := FV4) (m := o4) tZ_54 (fun _=>Xd<|rld<|arD fun _ => Y) fun _=>.ren<|.dat Y) .nil)⟩
   ·
    exact ZA<|R2 Qk Y<|Rm Y<|Za<|⟨_, h, ES [some 0] (hhp := .cons Y (Qf (fk := Q7) (fv := FV4) (m := o3) tZ_54 (fun _=>Xd<|rld<|arD fun _ => Y) fun _=>.ren<|.dat Y) .nil)⟩
  ·
   refine ZE<|?_
   replace h := lx h ▸ ho1
   exact ⟨_, h, ES [some 0] (hhp := .cons Y (Qf (fk := Q7) (fv := FV4) (m := o2) tZ_54 (fun _=>Xd<|rld<|arD fun _ => Y) fun _=>.ren<|.dat Y) .nil)⟩
 ·
  refine Tr<|Rm Y<|Ra Y<|Za<|?_
  obtain rfl := rt h
  exact Zi<|ZjC [some 0] Y (.cons (.tmp Y) .nil) (.cons Y (Qf (fk := Q7) (fv := FV4) (m := o) tZ_54 (fun _=>Xd<|rld<|arD fun _ => Y) fun _=>.ren<|.dat Y) .nil) Y Y<|.dat Y
theorem Za2 {t : List ((Vector Int 3) × Bool)} {l : List api_Cell} {r : Bool × (List ((Vector Int 3) × Bool))} (h : QW t l = some r) :
 GSpec Try.prog gl0 22 [.mref 0 1, .sl 34 (List.map R34 l)] [some ⟨54, [[.mcon (List.map (Qz Q7 FV4) t)]]⟩] (.bool r.1) [some ⟨54, [[.mcon (List.map (Qz Q7 FV4) r.2)]]⟩] := by
 unfold QW at h
 replace h := Qh h
 refine Zez (by kernel_rfl) Try.func22 Y Y<|?_
 intro w0 A W φ0
 refine Tr<|Ra Y<|Za<|K2 0 1 Y<|Tr<|Ra Y<|Za<|I2 (fun o ok=>⟨[(5, .bool ok)], [some ⟨54, [[.mcon (List.map (Qz Q7 FV4) o)]]⟩]⟩) h (fun h=>?_) fun o ok h=>?_
 ·
  refine Tr<|Rm Y<|Rl tZ_34 Zar Y<|Rm Y<|Za<|Zf<|?_
  obtain ⟨r1, hl1, ho1⟩ := QS h
  refine L3 (fun o2 ok2 i=>⟨[(0, .mref 0 1), (5, .bool ok2), (8, .sl 34 (List.map R34 l)), (9, .int .i64 (l.length : Int)), (10, .int .i64 i)], [some ⟨54, [[.mcon (List.map (Qz Q7 FV4) o2)]]⟩]⟩) hl1 (ES [some 0] (hhp := .cons Y (Qf (fk := Q7) (fv := FV4) (m := t) tZ_54 (fun _=>Xd<|rld<|arD fun _ => Y) fun _=>.ren<|.dat Y) .nil)) fun n1 o2 ok2 i h=>?_
  unfold Qq at h
  refine Tr<|R2 ZK Y<|Za<|Zh<|If h Y (fun h=>?_) fun h=>?_
  ·
   refine Ze<|Zh<|Zf<|K5 0 5 8 9 10 Y<|Tr<|bE h fun x h_x h=>Rq Y (ZF (ov Y) (ov Y) Zar h_x)<|Rq Y (Zg (ov Y) ZbD Y Y)<|Rx Y (Zr (row := [_, _, _, _]) 1 Y Zfr Y tZ_34)<|Rx Y (Zk (ov Y) (ov Y) (Zj ZbD Y) Y Y Y (Nat.le_of_ble_eq_true Y) (Zd Y) Y)<|Za<|K6 0 5 7 8 9 10 Y<|Tr<|Rm Y<|Rq Y (Zm (ov Y) Y Y Zbe)<|Rq Y (Zl (ov Y) Y Y Y Zfn Y)<|bE h fun y h_y h=>Rx Y (ZcY [0] (Zeq h_y) (.cons (ov Y) (.mref _ Y)<|.cons (ov Y) (.dat Y) .nil) (.cons Y (Qf (fk := Q7) (fv := FV4) (m := o2) tZ_54 (fun _=>Xd<|rld<|arD fun _ => Y) fun _=>.ren<|.dat Y) .nil) Y (.lent 0 (.inl Y) Y (Qf (fk := Q7) (fv := FV4) (m := y.2) tZ_54 (fun _=>Xd<|rld<|arD fun _ => Y) fun _=>.ren<|.dat Y)<|.keep Y Y .nil) Y Y<|.dat Y)<|R1 XN Y<|Za<|K6 0 5 8 9 10 18 Y<|If h Y (fun h=>?_) fun h=>?_
   ·
    exact K5 0 5 8 9 10 Y<|ZA<|Ra Y<|Za<|ZA<|R2 Qk Y<|Rm Y<|Za<|⟨_, h, ES [some 0] (hhp := .cons Y (Qf (fk := Q7) (fv := FV4) (m := y.2) tZ_54 (fun _=>Xd<|rld<|arD fun _ => Y) fun _=>.ren<|.dat Y) .nil)⟩
   ·
    exact Ze<|K5 0 5 8 9 10 Y<|ZA<|R2 Qk Y<|Rm Y<|Za<|⟨_, h, ES [some 0] (hhp := .cons Y (Qf (fk := Q7) (fv := FV4) (m := y.2) tZ_54 (fun _=>Xd<|rld<|arD fun _ => Y) fun _=>.ren<|.dat Y) .nil)⟩
  ·
   refine ZE<|?_
   replace h := lx h ▸ ho1
   exact ⟨_, h, ES [some 0] (hhp := .cons Y (Qf (fk := Q7) (fv := FV4) (m := o2) tZ_54 (fun _=>Xd<|rld<|arD fun _ => Y) fun _=>.ren<|.dat Y) .nil)⟩
 ·
  refine Tr<|Rm Y<|Ra Y<|Za<|?_
  obtain rfl := rt h
  exact Zi<|ZjC [some 0] Y (.cons (.tmp Y) .nil) (.cons Y (Qf (fk := Q7) (fv := FV4) (m := o) tZ_54 (fun _=>Xd<|rld<|arD fun _ => Y) fun _=>.ren<|.dat Y) .nil) Y Y<|.dat Y
theorem Zet {p : api_Param} {r : Int} (h : Jh p = some r) :
 CSpec Try.prog gl0 20 [.agg [.str p.Name, .int .i64 p.Kind, .sl 64 (List.map R64 p.Parts), .int .i64 p.First, .int .i64 p.Every, .int .i64 p.Times, .int .i64 p.Step, .sl 9 (List.map R9 p.Names)]] (.int .i64 r) := by
 unfold Jh at h
 replace h := Qh h
 refine So Try.func20 Y fun w0 A=>Tr<|Rq Y (Z9 (cva<|ov Y) Y tZ_44 Y)<|Ra Y<|Za<|Zh<|K1 1 Y<|Tr<|Rq Y (Zc (ov Y) Zfv)<|Rq Y (Zb (ov Y) tS9 Y)<|bE h fun y h_y h=>Rq Y (Zp (ZdK h_y)<|.cons (ov Y) (.b Y) .nil)<|R1 XN Y<|Za<|K2 1 10 Y<|If h Y (fun h=>?_) fun h=>?_
 ·
  refine K0<|Tr<|Ra Y<|Za<|?_
  obtain rfl := rt h
  exact Zi (Zs Y (.one<|rb Y))
 ·
  refine Ze<|Zh<|K1 1 Y<|Tr<|Rq Y (Zc (ov Y) Zbk)<|Rq Y (Zb (ov Y) tS3 Y)<|bE h fun y2 h_y2 h=>Rq Y (Zp (QP h_y2)<|.cons (ov Y) (.b Y)<|.cons (ov Y) (.b Y)<|.cons (ov Y) (.b Y) .nil)<|Za<|K2 1 13 Y<|If h Y (fun h=>?_) fun h=>?_
  ·
   refine K0<|Tr<|Ra Y<|Za<|?_
   obtain rfl := rt h
   exact Zi (Zs Y (.one<|rb Y))
  ·
   refine Ze<|Zh<|K1 1 Y<|Tr<|Rq Y (Zg (ov Y) Xy Y Y)<|bE h fun y3 h_y3 h=>Rq Y (Zp (Zex h_y3)<|.cons (ov Y) (.aggB Y) .nil)<|Ra Y<|Za<|K2 1 3 Y<|Tr<|Rm Y<|R2 QY Y<|Za<|K3 1 3 17 Y<|If h Y (fun h=>?_) fun h=>?_
   ·
    refine K1 3 Y<|Tr<|Rm Y<|Ra Y<|Za<|?_
    obtain rfl := rt h
    exact Zi (Zs Y (.one<|rb Y))
   ·
    refine Ze<|Zh<|K1 1 Y<|Tr<|Rq Y (Zg (ov Y) Xy Y Y)<|bE h fun y4 h_y4 h=>Rq Y (Zp (Zed h_y4)<|.cons (ov Y) (.aggB Y) .nil)<|Ra Y<|Za<|K2 1 4 Y<|Tr<|Rm Y<|R2 QY Y<|Za<|K3 1 4 22 Y<|If h Y (fun h=>?_) fun h=>?_
    ·
     refine K1 4 Y<|Tr<|Rm Y<|Ra Y<|Za<|?_
     obtain rfl := rt h
     exact Zi (Zs Y (.one<|rb Y))
    ·
     refine Ze<|Zh<|K1 1 Y<|Tr<|Rq Y (Zg (ov Y) Xy Y Y)<|bE h fun y5 h_y5 h=>Rq Y (Zp (ZeL h_y5)<|.cons (ov Y) (.aggB Y) .nil)<|Ra Y<|Za<|K2 1 5 Y<|Tr<|Rm Y<|R2 QY Y<|Za<|K3 1 5 27 Y<|If h Y (fun h=>?_) fun h=>?_
     ·
      refine K1 5 Y<|Tr<|Rm Y<|Ra Y<|Za<|?_
      obtain rfl := rt h
      exact Zi (Zs Y (.one<|rb Y))
     ·
      refine Ze<|K1 1 Y<|Tr<|Rq Y (Zg (ov Y) Xy Y Y)<|bE h fun y6 h_y6 h=>Rq Y (Zp (Zbr h_y6)<|.cons (ov Y) (.aggB Y)<|.cons (ov Y) (.b Y) .nil)<|Ra Y<|Za<|Zh<|K1 6 Y<|Tr<|Rx Y (ZbQ 0 Y Zir)<|Rm Y<|bE h fun y7 h_y7 h=>Rx Y (ZcY [0] (Za2 h_y7) (.cons (ov Y) (.mref _ Y)<|.cons (ov Y) (.dat Y) .nil) (.cons Y (Qf (fk := Q7) (fv := FV4) (m := ([] : List ((Vector Int 3) × Bool))) tZ_54 (fun _=>Xd<|rld<|arD fun _ => Y) fun _=>.ren<|.dat Y) .nil) Y (.lent 0 (.inl Y) Y (Qf (fk := Q7) (fv := FV4) (m := y7.2) tZ_54 (fun _=>Xd<|rld<|arD fun _ => Y) fun _=>.ren<|.dat Y) .nil) Y Y<|.dat Y)<|R1 XN Y<|Za<|K2 6 34 Y<|If h Y (fun h=>?_) fun h=>?_
      ·
       refine K0<|Tr<|Ra Y<|Za<|?_
       obtain rfl := rt h
       exact Zi (Zs Y (.one<|rb Y))
      ·
       refine Ze<|Zh<|K1 6 Y<|Tr<|Rm Y<|Rl tZ_34 Zar Y<|R2 Xa Y<|Za<|K1 37 Y<|If h Y (fun h=>?_) fun h=>?_
       ·
        refine K0<|Tr<|Ra Y<|Za<|?_
        obtain rfl := rt h
        exact Zi (Zs Y (.one<|rb Y))
       ·
        refine Ze<|K0<|Tr<|Ra Y<|Za<|?_
        obtain rfl := rt h
        exact Zi (Zs Y (.one<|rb Y))
theorem Zck {m : api_Map} {r : Int × Int} (h : QL m = some r) :
 CSpec Try.prog gl0 6 [.agg [.int .i64 m.Version, .sl 44 (List.map R44 m.Params)]] (.tuple [.int .i64 r.1, .int .i64 r.2]) := by
 unfold QL at h
 replace h := Qh h
 refine So Try.func6 Y fun w0 A=>Tr<|Rq Y (Z9 (cva<|ov Y) Y tZ_24 Y)<|Ra Y<|Ra Y<|Za<|Zh<|K1 1 Y<|Tr<|Rq Y (Zc (ov Y) Zg8)<|Rq Y (Zb (ov Y) tS3 Y)<|bE h fun y h_y h=>Rq Y (Zp (QP h_y)<|.cons (ov Y) (.b Y)<|.cons (ov Y) (.b Y)<|.cons (ov Y) (.b Y) .nil)<|Za<|K2 1 17 Y<|If h Y (fun h=>?_) fun h=>?_
 ·
  refine K0<|Tr<|Ra Y<|Ra Y<|Za<|?_
  obtain rfl := rt h
  exact Zi (Zs Y (.two (rb Y)<|rb Y))
 ·
  refine Ze<|Zh<|K1 1 Y<|Tr<|Rq Y (Zc (ov Y) Zap)<|Rq Y (Zb (ov Y) Zeu Y)<|Rl tZ_44 Za1 Y<|R2 Jj Y<|Za<|K2 1 21 Y<|If h Y (fun h=>?_) fun h=>?_
  ·
   refine K0<|Tr<|Ra Y<|Ra Y<|Za<|?_
   obtain rfl := rt h
   exact Zi (Zs Y (.two (rb Y)<|rb Y))
  ·
   refine Ze<|K1 1 Y<|Tr<|Ra Y<|Za<|J0 (fun j => (.inr j)) ⟨[(1, .rp [.int .i64 m.Version, .sl 44 (List.map R44 m.Params)] 0), (4, .int .i64 0)], []⟩ h (fun h=>?_) fun h=>?_
   ·
    refine Tr<|Rq Y (Zc (ov Y) Zap)<|Rq Y (Zb (ov Y) Zeu Y)<|Rl tZ_44 Za1 Y<|Rm Y<|Za<|Zf<|?_
    obtain ⟨r1, hl1, ho1⟩ := QS h
    refine L1 (fun i=>⟨[(1, .rp [.int .i64 m.Version, .sl 44 (List.map R44 m.Params)] 0), (4, .int .i64 0), (23, .sl 44 (List.map R44 m.Params)), (24, .int .i64 (m.Params.length : Int)), (25, .int .i64 i)], []⟩) hl1 (ES []) fun n1 i h=>?_
    unfold Zaa at h
    refine Tr<|R2 ZK Y<|Za<|Zh<|If h Y (fun h=>?_) fun h=>?_
    ·
     refine Ze<|J0 (fun j => (.inr j)) ⟨[(1, .rp [.int .i64 m.Version, .sl 44 (List.map R44 m.Params)] 0), (4, .int .i64 0), (23, .sl 44 (List.map R44 m.Params)), (24, .int .i64 (m.Params.length : Int)), (25, .int .i64 i)], []⟩ h (fun h=>?_) fun h=>?_
     ·
      refine Zf<|K5 1 4 23 24 25 Y<|Tr<|Rm Y<|bE h fun x h_x h=>Rq Y (ZF (ov Y) (ov Y) Za1 h_x)<|Rq Y (Zg (ov Y) Xy Y Y)<|Rx Y (Zr (row := [_, _, _, _, _, _, _, _]) 0 Y ZgG Y tZ_44)<|Ra Y<|Rx Y (Zk (ov Y) (ov Y) (Zj Xy Y) Y Y Y (Nat.le_of_ble_eq_true Y) (Zd Y) Y)<|Za<|Zh<|K7 1 4 5 6 23 24 25 Y<|Tr<|Rq Y (ZV (ov Y) Y Y Y Xy Y Y)<|bE h fun y2 h_y2 h=>Rq Y (Zp (Zet h_y2)<|.cons (ov Y) (.aggB Y) .nil)<|Ra Y<|Za<|K8 1 4 5 6 7 23 24 25 Y<|Tr<|Rm Y<|R2 QY Y<|Za<|K9 1 4 5 6 7 23 24 25 33 Y<|If h Y (fun h=>?_) fun h=>?_
      ·
       refine K2 5 7 Y<|Tr<|Rm Y<|Rm Y<|Ra Y<|Ra Y<|Za<|?_
       replace h := lx h ▸ ho1
       obtain rfl := rt h
       exact Zi (Zs Y (.two (rb Y)<|rb Y))
      ·
       refine Ze<|K7 1 4 5 6 23 24 25 Y<|Tr<|Rq Y (Zc (ov Y) Zap)<|Rq Y (Zb (ov Y) Zeu Y)<|Rm Y<|bE h fun l h_l h=>Rq Y (ZeA (ov Y) Za1 on (oi<|ov Y) h_l)<|Rl tZ_44 Za1 Y<|Rm Y<|Za<|Zf<|?_
       obtain ⟨r2, hl2, ho2⟩ := QS h
       refine L1 (fun i2=>⟨[(1, .rp [.int .i64 m.Version, .sl 44 (List.map R44 m.Params)] 0), (4, .int .i64 0), (5, .int .i64 i), (6, .ptr 0 1 0 0), (23, .sl 44 (List.map R44 m.Params)), (24, .int .i64 (m.Params.length : Int)), (25, .int .i64 i), (39, .sl 44 (List.map R44 l)), (40, .int .i64 (l.length : Int)), (41, .int .i64 i2)], [some ⟨44, [[.str x.Name, .int .i64 x.Kind, .sl 64 (List.map R64 x.Parts), .int .i64 x.First, .int .i64 x.Every, .int .i64 x.Times, .int .i64 x.Step, .sl 9 (List.map R9 x.Names)]]⟩]⟩) hl2 (ES [some 0]) fun n2 i2 h=>?_
       unfold Zac at h
       refine Tr<|R2 ZK Y<|Za<|Zh<|If h Y (fun h=>?_) fun h=>?_
       ·
        refine Ze<|Zh<|Zf<|K10 1 4 5 6 23 24 25 39 40 41 Y<|Tr<|bE h fun x2 h_x2 h=>Rq Y (ZF (ov Y) (ov Y) Za1 h_x2)<|Rq Y (Zg (ov Y) Xy Y Y)<|Rx Y (Zr (row := [_, _, _, _, _, _, _, _]) 1 Y ZgG Y tZ_44)<|Rx Y (Zk (ov Y) (ov Y) (Zj Xy Y) Y Y Y (Nat.le_of_ble_eq_true Y) (Zd Y) Y)<|Za<|K11 1 4 5 6 9 23 24 25 39 40 41 Y<|Tr<|Rq Y (Zm (ov Y) Y Y Zfv)<|Rq Y (Zl (ov Y) Y Y Y tS9 Y)<|Rq Y (Zm (ov Y) Y Y Zfv)<|Rq Y (Zl (ov Y) Y Y Y tS9 Y)<|R2 ZeV Y<|Za<|K11 1 4 5 6 23 24 25 39 40 41 49 Y<|If h Y (fun h=>?_) fun h=>?_
        ·
         refine K1 5 Y<|Tr<|Rm Y<|Ra Y<|Ra Y<|Za<|?_
         replace h := lx h ▸ ho2
         replace h := lx h ▸ ho1
         obtain rfl := rt h
         exact Zi (Zs Y (.two (rb Y)<|rb Y))
        ·
         exact Ze<|K10 1 4 5 6 23 24 25 39 40 41 Y<|ZA<|R2 Qk Y<|Rm Y<|Za<|⟨_, h, ES [some 0]⟩
       ·
        refine ZE<|?_
        replace h := lx h ▸ ho2
        exact ⟨(), h, ES []⟩
     ·
      replace h := elr h
      replace h := t0i h
      exact ZA<|R2 Qk Y<|Rm Y<|Za<|⟨_, h, ES []⟩
    ·
     refine ZE<|?_
     replace h := lx h ▸ ho1
     exact ⟨(), h, ES []⟩
   ·
    replace h := elr h
    replace h := t0i h
    refine J0 (fun j => (.inr j)) ⟨[(1, .rp [.int .i64 m.Version, .sl 44 (List.map R44 m.Params)] 0)], []⟩ h (fun h=>?_) fun h=>?_
    ·
     refine Tr<|Rq Y (Zc (ov Y) Zap)<|Rq Y (Zb (ov Y) Zeu Y)<|Rl tZ_44 Za1 Y<|Rm Y<|Za<|Zf<|?_
     obtain ⟨r3, hl3, ho3⟩ := QS h
     refine L2 (fun n i3=>⟨[(1, .rp [.int .i64 m.Version, .sl 44 (List.map R44 m.Params)] 0), (4, .int .i64 n), (54, .sl 44 (List.map R44 m.Params)), (55, .int .i64 (m.Params.length : Int)), (56, .int .i64 i3)], []⟩) hl3 (ES []) fun n3 n i3 h=>?_
     unfold Qt at h
     refine Tr<|R2 ZK Y<|Za<|Zh<|If h Y (fun h=>?_) fun h=>?_
     ·
      refine Ze<|Zh<|Zf<|K5 1 4 54 55 56 Y<|Tr<|Rm Y<|bE h fun x3 h_x3 h=>Rq Y (ZF (ov Y) (ov Y) Za1 h_x3)<|Rq Y (Zg (ov Y) Xy Y Y)<|Rx Y (Zr (row := [_, _, _, _, _, _, _, _]) 0 Y ZgG Y tZ_44)<|Ra Y<|Rx Y (Zk (ov Y) (ov Y) (Zj Xy Y) Y Y Y (Nat.le_of_ble_eq_true Y) (Zd Y) Y)<|Za<|K7 1 4 10 11 54 55 56 Y<|Tr<|Rm Y<|Rq Y (ZV (ov Y) Y Y Y Xy Y Y)<|Rm Y<|bE h fun y3 h_y3 h=>Rq Y (Zp (Zbr h_y3)<|.cons (ov Y) (.aggB Y)<|.cons (ov Y) (.b Y) .nil)<|Rl tZ_34 Zar Y<|R2 Qk Y<|Ra Y<|Za<|K6 1 4 10 54 55 56 Y<|Tr<|Rm Y<|R2 Jj Y<|Za<|K7 1 4 10 54 55 56 68 Y<|If h Y (fun h=>?_) fun h=>?_
      ·
       refine K1 10 Y<|Tr<|Rm Y<|Ra Y<|Ra Y<|Za<|?_
       replace h := lx h ▸ ho3
       obtain rfl := rt h
       exact Zi (Zs Y (.two (rb Y)<|rb Y))
      ·
       exact Ze<|K5 1 4 54 55 56 Y<|ZA<|R2 Qk Y<|Rm Y<|Za<|⟨_, h, ES []⟩
     ·
      refine ZE<|?_
      replace h := lx h ▸ ho3
      exact ⟨(), h, ES []⟩
    ·
     replace h := elr h
     replace h := t0i h
     refine Tr<|Rx Y (ZbQ 0 Y Zir)<|Ra Y<|Za<|J0 (fun j => (.inr j)) ⟨[], []⟩ h (fun h=>?_) fun h=>?_
     ·
      refine K2 1 12 Y<|Tr<|Rq Y (Zc (ov Y) Zap)<|Rq Y (Zb (ov Y) Zeu Y)<|Rl tZ_44 Za1 Y<|Rm Y<|Za<|Zf<|?_
      obtain ⟨r4, hl4, ho4⟩ := QS h
      refine L2 (fun t i4=>⟨[(12, .mref 0 1), (73, .sl 44 (List.map R44 m.Params)), (74, .int .i64 (m.Params.length : Int)), (75, .int .i64 i4)], [some ⟨54, [[.mcon (List.map (Qz Q7 FV4) t)]]⟩]⟩) hl4 (ES [some 0] (hhp := .cons Y (Qf (fk := Q7) (fv := FV4) (m := ([] : List ((Vector Int 3) × Bool))) tZ_54 (fun _=>Xd<|rld<|arD fun _ => Y) fun _=>.ren<|.dat Y) .nil)) fun n4 t i4 h=>?_
      unfold Qs at h
      refine Tr<|R2 ZK Y<|Za<|Zh<|If h Y (fun h=>?_) fun h=>?_
      ·
       refine Ze<|Zh<|Zf<|K4 12 73 74 75 Y<|Tr<|Rm Y<|bE h fun x4 h_x4 h=>Rq Y (ZF (ov Y) (ov Y) Za1 h_x4)<|Rq Y (Zg (ov Y) Xy Y Y)<|Rx Y (Zr (row := [_, _, _, _, _, _, _, _]) 1 Y ZgG Y tZ_44)<|Ra Y<|Rx Y (Zk (ov Y) (ov Y) (Zj Xy Y) Y Y Y (Nat.le_of_ble_eq_true Y) (Zd Y) Y)<|Za<|K6 12 13 14 73 74 75 Y<|Tr<|Rm Y<|Rq Y (ZV (ov Y) Y Y Y Xy Y Y)<|Rm Y<|bE h fun y4 h_y4 h=>Rq Y (Zp (Zbr h_y4)<|.cons (ov Y) (.aggB Y)<|.cons (ov Y) (.b Y) .nil)<|bE h fun y5 h_y5 h=>Rx Y (ZcY [0] (Za2 h_y5) (.cons (ov Y) (.mref _ Y)<|.cons (ov Y) (.dat Y) .nil) (.cons Y (Qf (fk := Q7) (fv := FV4) (m := t) tZ_54 (fun _=>Xd<|rld<|arD fun _ => Y) fun _=>.ren<|.dat Y) .nil) Y (.lent 0 (.inl Y) Y (Qf (fk := Q7) (fv := FV4) (m := y5.2) tZ_54 (fun _=>Xd<|rld<|arD fun _ => Y) fun _=>.ren<|.dat Y)<|.keep Y Y .nil) Y Y<|.dat Y)<|R1 XN Y<|Za<|K6 12 13 73 74 75 85 Y<|If h Y (fun h=>?_) fun h=>?_
       ·
        refine K1 13 Y<|Tr<|Rm Y<|Ra Y<|Ra Y<|Za<|?_
        replace h := lx h ▸ ho4
        obtain rfl := rt h
        exact Zi (Zs Y (.two (rb Y)<|rb Y))
       ·
        exact Ze<|K4 12 73 74 75 Y<|ZA<|R2 Qk Y<|Rm Y<|Za<|⟨_, h, ES [some 0] (hhp := .cons Y (Qf (fk := Q7) (fv := FV4) (m := y5.2) tZ_54 (fun _=>Xd<|rld<|arD fun _ => Y) fun _=>.ren<|.dat Y) .nil)⟩
      ·
       refine ZE<|?_
       replace h := lx h ▸ ho4
       exact ⟨(), h, ES []⟩
     ·
      replace h := elr h
      replace h := t0i h
      refine Tr<|Ra Y<|Ra Y<|Za<|?_
      obtain rfl := rt h
      exact Zi (Zs Y (.two (rb Y)<|rb Y))
theorem Zaj {m : api_Map} {r : (List api_Cell)} (h : QZ m = some r) :
 CSpec Try.prog gl0 23 [.agg [.int .i64 m.Version, .sl 44 (List.map R44 m.Params)]] (.sl 34 (List.map R34 r)) := by
 unfold QZ at h
 replace h := Qh h
 refine So Try.func23 Y fun w0 A=>Tr<|Rq Y (Z9 (cva<|ov Y) Y tZ_24 Y)<|Ra Y<|Za<|K1 1 Y<|Tr<|Ra Y<|Za<|I1 (fun out=>⟨[(3, .own 0 out.length)], [some ⟨34, List.map R34 out⟩]⟩) h (fun h=>?_) fun out h=>?_
 ·
  refine Tr<|Rq Y (Zc (ov Y) Zap)<|Rq Y (Zb (ov Y) Zeu Y)<|Rl tZ_44 Za1 Y<|Rm Y<|Za<|Zf<|?_
  obtain ⟨r1, hl1, ho1⟩ := QS h
  refine L2 (fun out2 i=>⟨[(3, .own 0 out2.length), (7, .sl 44 (List.map R44 m.Params)), (8, .int .i64 (m.Params.length : Int)), (9, .int .i64 i)], [some ⟨34, List.map R34 out2⟩]⟩) hl1 (ES [none]) fun n1 out2 i h=>?_
  unfold Ji at h
  refine Tr<|R2 ZK Y<|Za<|Zh<|If h Y (fun h=>?_) fun h=>?_
  ·
   exact Ze<|Zh<|Zf<|K4 3 7 8 9 Y<|Tr<|Rm Y<|bE h fun x h_x h=>Rq Y (ZF (ov Y) (ov Y) Za1 h_x)<|Rq Y (Zg (ov Y) Xy Y Y)<|Rx Y (Zr (row := [_, _, _, _, _, _, _, _]) 1 Y ZgG Y tZ_44)<|Ra Y<|Rx Y (Zk (ov Y) (ov Y) (Zj Xy Y) Y Y Y (Nat.le_of_ble_eq_true Y) (Zd Y) Y)<|Za<|K6 3 4 5 7 8 9 Y<|ZA<|Rm Y<|Rm Y<|Rq Y (ZV (ov Y) Y Y Y Xy Y Y)<|bE h fun y h_y h=>Rq Y (Zp (ZaX h_y)<|.cons (ov Y) (.b Y)<|.cons (ov Y) (.aggB Y) .nil)<|bE h fun l h_l h=>Rx Y (ZgT (ov Y) (X4 (ov Y) tZ_34) Zar Y Y (fun _=>Zd Y) Y h_l)<|Ra Y<|Za<|K4 3 7 8 9 Y<|ZA<|R2 Qk Y<|Rm Y<|Za<|⟨_, h, ES [some 0]⟩
  ·
   refine ZE<|?_
   replace h := lx h ▸ ho1
   exact ⟨_, h, ES [some 0]⟩
 ·
  refine Tr<|Rm Y<|Ra Y<|Za<|?_
  obtain rfl := rt h
  exact Zi (Zs Y (.one<|.tmp Y<|View.ownM Y Y D34))
theorem ZfQ {m : api_Map} {r : (List api_Cell) × Int} (h : ZaC m = some r) :
 CSpec Try.prog gl0 7 [.agg [.int .i64 m.Version, .sl 44 (List.map R44 m.Params)]] (.tuple [.sl 34 (List.map R34 r.1), .int .i64 r.2]) := by
 unfold ZaC at h
 replace h := Qh h
 refine So Try.func7 Y fun w0 A=>Tr<|Rq Y (Z9 (cva<|ov Y) Y tZ_24 Y)<|Ra Y<|Ra Y<|Za<|Zh<|K1 1 Y<|Tr<|Rq Y (Zg (ov Y) Zb9 Y Y)<|bE h fun y h_y h=>Rq Y (Zp (Je h_y)<|.cons (ov Y) (.aggB Y) .nil)<|Rm Y<|Rq Y (Zy (ov Y) Y)<|Rq Y (Zy (ov Y) Y)<|Ra Y<|Ra Y<|Za<|K2 1 5 Y<|Tr<|Rm Y<|R2 QY Y<|Za<|K3 1 5 12 Y<|If h Y (fun h=>?_) fun h=>?_
 ·
  refine K1 5 Y<|Tr<|Rm Y<|Ra Y<|Ra Y<|Za<|?_
  obtain rfl := rt h
  exact Zi (Zs Y (.two (.tmp Y<|View.nils 34)<|rb Y))
 ·
  refine Ze<|K1 1 Y<|Tr<|Rq Y (Zg (ov Y) Zb9 Y Y)<|bE h fun y2 h_y2 h=>Rq Y (Zp (Zaj h_y2)<|.cons (ov Y) (.aggB Y) .nil)<|Ra Y<|Ra Y<|Za<|?_
  obtain rfl := rt h
  exact Zi (Zs Y (.two (rb Y)<|rb Y))
theorem Zcl {m : api_Map} {r : (List api_Cell)} (h : Jm m = some r) :
 CSpec Try.prog gl0 24 [.agg [.int .i64 m.Version, .sl 44 (List.map R44 m.Params)]] (.sl 34 (List.map R34 r)) := by
 unfold Jm at h
 replace h := Qh h
 refine So Try.func24 Y fun w0 A=>Tr<|Rq Y (Z9 (cva<|ov Y) Y tZ_24 Y)<|Ra Y<|Za<|K1 1 Y<|Tr<|Ra Y<|Za<|I1 (fun out=>⟨[(3, .own 0 out.length)], [some ⟨34, List.map R34 out⟩]⟩) h (fun h=>?_) fun out h=>?_
 ·
  refine Tr<|Rq Y (Zc (ov Y) Zap)<|Rq Y (Zb (ov Y) Zeu Y)<|Rl tZ_44 Za1 Y<|Rm Y<|Za<|Zf<|?_
  obtain ⟨r1, hl1, ho1⟩ := QS h
  refine L2 (fun out2 i=>⟨[(3, .own 0 out2.length), (7, .sl 44 (List.map R44 m.Params)), (8, .int .i64 (m.Params.length : Int)), (9, .int .i64 i)], [some ⟨34, List.map R34 out2⟩]⟩) hl1 (ES [none]) fun n1 out2 i h=>?_
  unfold Za3 at h
  refine Tr<|R2 ZK Y<|Za<|Zh<|If h Y (fun h=>?_) fun h=>?_
  ·
   exact Ze<|Zh<|Zf<|K4 3 7 8 9 Y<|Tr<|Rm Y<|bE h fun x h_x h=>Rq Y (ZF (ov Y) (ov Y) Za1 h_x)<|Rq Y (Zg (ov Y) Xy Y Y)<|Rx Y (Zr (row := [_, _, _, _, _, _, _, _]) 1 Y ZgG Y tZ_44)<|Ra Y<|Rx Y (Zk (ov Y) (ov Y) (Zj Xy Y) Y Y Y (Nat.le_of_ble_eq_true Y) (Zd Y) Y)<|Za<|K6 3 4 5 7 8 9 Y<|ZA<|Rm Y<|Rq Y (ZV (ov Y) Y Y Y Xy Y Y)<|Rm Y<|bE h fun y h_y h=>Rq Y (Zp (Zbr h_y)<|.cons (ov Y) (.aggB Y)<|.cons (ov Y) (.b Y) .nil)<|bE h fun l h_l h=>Rx Y (ZgT (ov Y) (X4 (ov Y) tZ_34) Zar Y Y (fun _=>Zd Y) Y h_l)<|Ra Y<|Za<|K4 3 7 8 9 Y<|ZA<|R2 Qk Y<|Rm Y<|Za<|⟨_, h, ES [some 0]⟩
  ·
   refine ZE<|?_
   replace h := lx h ▸ ho1
   exact ⟨_, h, ES [some 0]⟩
 ·
  refine Tr<|Rm Y<|Ra Y<|Za<|?_
  obtain rfl := rt h
  exact Zi (Zs Y (.one<|.tmp Y<|View.ownM Y Y D34))
theorem ZgH {m : api_Map} {r : (List api_Cell) × Int} (h : Zb4 m = some r) :
 CSpec Try.prog gl0 8 [.agg [.int .i64 m.Version, .sl 44 (List.map R44 m.Params)]] (.tuple [.sl 34 (List.map R34 r.1), .int .i64 r.2]) := by
 unfold Zb4 at h
 replace h := Qh h
 refine So Try.func8 Y fun w0 A=>Tr<|Rq Y (Z9 (cva<|ov Y) Y tZ_24 Y)<|Ra Y<|Ra Y<|Za<|Zh<|K1 1 Y<|Tr<|Rq Y (Zg (ov Y) Zb9 Y Y)<|bE h fun y h_y h=>Rq Y (Zp (Zck h_y)<|.cons (ov Y) (.aggB Y) .nil)<|Rm Y<|Rq Y (Zy (ov Y) Y)<|Rq Y (Zy (ov Y) Y)<|Ra Y<|Ra Y<|Za<|K2 1 5 Y<|Tr<|Rm Y<|R2 QY Y<|Za<|K3 1 5 12 Y<|If h Y (fun h=>?_) fun h=>?_
 ·
  refine K1 5 Y<|Tr<|Rm Y<|Ra Y<|Ra Y<|Za<|?_
  obtain rfl := rt h
  exact Zi (Zs Y (.two (.tmp Y<|View.nils 34)<|rb Y))
 ·
  refine Ze<|K1 1 Y<|Tr<|Rq Y (Zg (ov Y) Zb9 Y Y)<|bE h fun y2 h_y2 h=>Rq Y (Zp (Zcl h_y2)<|.cons (ov Y) (.aggB Y) .nil)<|Ra Y<|Ra Y<|Za<|?_
  obtain rfl := rt h
  exact Zi (Zs Y (.two (rb Y)<|rb Y))
theorem Q2 {s1 : List api_Cell} {s2 : List api_Cell} {eq : api_Cell → api_Cell → Option Bool} {r : Bool} {eq_f : FuncId} {eq_c : List AV} (eq_d : eq_c.all datB = true) (eq_h : ∀ (z0 : api_Cell) (z1 : api_Cell) z, eq z0 z1 = some z → CSpec Try.prog gl0 eq_f ([.agg [.int .i64 z0.Param, .int .i64 z0.Index, .int .i64 z0.Frame, .sl 59 (List.map R59 z0.Places)], .agg [.int .i64 z1.Param, .int .i64 z1.Index, .int .i64 z1.Frame, .sl 59 (List.map R59 z1.Places)]] ++ eq_c) (.bool z)) (h : Zn s1 s2 eq = some r) :
 CSpec Try.prog gl0 9 [.sl 34 (List.map R34 s1), .sl 34 (List.map R34 s2), .fn eq_f eq_c] (.bool r) := by
 unfold Zn at h
 replace h := Qh h
 refine So Try.func9 Y fun w0 A=>Tr<|Ra Y<|Za<|Zh<|K3 0 1 2 Y<|Tr<|Rm Y<|Rl tZ_34 Zar Y<|Rm Y<|Rl tZ_34 Zar Y<|R2 QY Y<|Za<|K4 0 1 2 14 Y<|If h Y (fun h=>?_) fun h=>?_
 ·
  refine K0<|Tr<|Ra Y<|Za<|?_
  obtain rfl := rt h
  exact Zi (Zs Y (.one<|rb Y))
 ·
  refine Ze<|J0 (fun j => (.inr j)) ⟨[], []⟩ h (fun h=>?_) fun h=>?_
  ·
   refine K3 0 1 2 Y<|Tr<|Rm Y<|Rl tZ_34 Zar Y<|Rm Y<|Za<|Zf<|?_
   obtain ⟨r1, hl1, ho1⟩ := QS h
   refine L1 (fun i=>⟨[(1, .sl 34 (List.map R34 s2)), (2, .fn eq_f eq_c), (15, .sl 34 (List.map R34 s1)), (16, .int .i64 (s1.length : Int)), (17, .int .i64 i)], []⟩) hl1 (ES []<|sd 1 Y Y<|sr 2 Y (rFn<|rld eq_d)<|sd 15 Y Y<|sd 16 Y Y<|sd 17 Y Y sn) fun n1 i h=>?_
   unfold Zz at h
   refine Tr<|R2 ZK Y<|Za<|Zh<|If h Y (fun h=>?_) fun h=>?_
   ·
    refine Ze<|Zh<|Zf<|K5 1 2 15 16 17 Y<|Tr<|Rm Y<|bE h fun x h_x h=>Rq Y (ZF (ov Y) (ov Y) Zar h_x)<|Rq Y (Zg (ov Y) ZbD Y Y)<|Rx Y (Zr (row := [_, _, _, _]) 0 Y Zfr Y tZ_34)<|Ra Y<|Rx Y (Zk (ov Y) (ov Y) (Zj ZbD Y) Y Y Y (Nat.le_of_ble_eq_true Y) (Zd Y) Y)<|Za<|K7 1 2 7 8 15 16 17 Y<|Tr<|Rm Y<|Rm Y<|bE h fun x2 h_x2 h=>Rq Y (ZF (ov Y) (ov Y) Zar h_x2)<|Rq Y (Zg (ov Y) ZbD Y Y)<|Rx Y (Zr (row := [_, _, _, _]) 1 Y Zfr Y tZ_34)<|Rx Y (Zk (ov Y) (ov Y) (Zj ZbD Y) Y Y Y (Nat.le_of_ble_eq_true Y) (Zd Y) Y)<|Za<|K7 1 2 8 9 15 16 17 Y<|Tr<|Rm Y<|Rq Y (ZV (ov Y) Y Y Y ZbD Y Y)<|Rq Y (ZV (ov Y) Y Y Y ZbD Y Y)<|bE h fun y h_y h=>Rq Y (X7 (ov Y) eq_d (eq_h _ _ _ h_y)<|.cons (ov Y) (.aggB Y)<|.cons (ov Y) (.aggB Y) .nil)<|R1 XN Y<|Za<|K6 1 2 15 16 17 30 Y<|If h Y (fun h=>?_) fun h=>?_
    ·
     refine K0<|Tr<|Ra Y<|Za<|?_
     replace h := lx h ▸ ho1
     obtain rfl := rt h
     exact Zi (Zs Y (.one<|rb Y))
    ·
     exact Ze<|K5 1 2 15 16 17 Y<|ZA<|R2 Qk Y<|Rm Y<|Za<|⟨_, h, ES []<|sd 1 Y Y<|sr 2 Y (rFn<|rld eq_d)<|sd 15 Y Y<|sd 16 Y Y<|sd 17 Y Y sn⟩
   ·
    refine ZE<|?_
    replace h := lx h ▸ ho1
    exact ⟨(), h, ES []⟩
  ·
   replace h := elr h
   replace h := t0i h
   refine Tr<|Ra Y<|Za<|?_
   obtain rfl := rt h
   exact Zi (Zs Y (.one<|rb Y))
theorem J9 {s1 : List api_Place} {s2 : List api_Place} {r : Bool} (h : ZQ s1 s2 = some r) :
 CSpec Try.prog gl0 25 [.sl 59 (List.map R59 s1), .sl 59 (List.map R59 s2)] (.bool r) := by
 unfold ZQ at h
 replace h := Qh h
 refine So Try.func25 Y fun w0 A=>Tr<|Ra Y<|Za<|Zh<|K2 0 1 Y<|Tr<|Rm Y<|Rl tZ_59 ZcW Y<|Rm Y<|Rl tZ_59 ZcW Y<|R2 QY Y<|Za<|K3 0 1 10 Y<|If h Y (fun h=>?_) fun h=>?_
 ·
  refine K0<|Tr<|Ra Y<|Za<|?_
  obtain rfl := rt h
  exact Zi (Zs Y (.one<|rb Y))
 ·
  refine Ze<|J0 (fun j => (.inr j)) ⟨[], []⟩ h (fun h=>?_) fun h=>?_
  ·
   refine K2 0 1 Y<|Tr<|Rm Y<|Rl tZ_59 ZcW Y<|Rm Y<|Za<|Zf<|?_
   obtain ⟨r1, hl1, ho1⟩ := QS h
   refine L1 (fun i=>⟨[(0, .sl 59 (List.map R59 s1)), (1, .sl 59 (List.map R59 s2)), (12, .int .i64 (s1.length : Int)), (13, .int .i64 i)], []⟩) hl1 (ES []) fun n1 i h=>?_
   unfold ZG at h
   refine Tr<|R2 ZK Y<|Za<|Zh<|If h Y (fun h=>?_) fun h=>?_
   ·
    refine Ze<|Zh<|Zf<|K4 0 1 12 13 Y<|Tr<|Rm Y<|Ra Y<|Za<|K5 0 1 5 12 13 Y<|Td md0<|D1 0 Zv Y<|D1 1 Zv Y<|bE h fun x h_x h=>Dq 2 Y (ZF (ov Y) (ov Y) ZcW h_x)<|Dq 3 Y (Zg (ov Y) Zeg Y Y)<|D1 4 Zv Y<|D1 5 Zv Y<|bE h fun x2 h_x2 h=>Dq 6 Y (ZF (ov Y) (ov Y) ZcW h_x2)<|Dq 7 Y (Zg (ov Y) Zeg Y Y)<|Dq 8 Y (ZlD ZlK (ov Y) (ov Y) (.aggB Y) (.aggB Y) Y Y)<|Dd<|K5 0 1 12 13 24 Y<|If h Y (fun h=>?_) fun h=>?_
    ·
     refine K0<|Tr<|Ra Y<|Za<|?_
     replace h := lx h ▸ ho1
     obtain rfl := rt h
     exact Zi (Zs Y (.one<|rb Y))
    ·
     exact Ze<|K4 0 1 12 13 Y<|ZA<|R2 Qk Y<|Rm Y<|Za<|⟨_, h, ES []⟩
   ·
    refine ZE<|?_
    replace h := lx h ▸ ho1
    exact ⟨(), h, ES []⟩
  ·
   replace h := elr h
   replace h := t0i h
   refine Tr<|Ra Y<|Za<|?_
   obtain rfl := rt h
   exact Zi (Zs Y (.one<|rb Y))
theorem Zft {a : api_Cell} {b : api_Cell} {r : Bool} (h : XK a b = some r) :
 CSpec Try.prog gl0 10 [.agg [.int .i64 a.Param, .int .i64 a.Index, .int .i64 a.Frame, .sl 59 (List.map R59 a.Places)], .agg [.int .i64 b.Param, .int .i64 b.Index, .int .i64 b.Frame, .sl 59 (List.map R59 b.Places)]] (.bool r) := by
 unfold XK at h
 replace h := Qh h
 refine So Try.func10 Y fun w0 A=>Tr<|Rq Y (Z9 (cva<|ov Y) Y tZ_34 Y)<|Rq Y (Z9 (cva<|ov Y) Y tZ_34 Y)<|Ra Y<|Za<|K3 2 3 4 Y<|Tr<|Rq Y (Zc (ov Y) Zfs)<|Rq Y (Zb (ov Y) tS3 Y)<|Rq Y (Zc (ov Y) Zfs)<|Rq Y (Zb (ov Y) tS3 Y)<|R2 Xa Y<|Rm Y<|Rq Y (.guarded ((decide (a.Param = b.Param)) == true) Y Y Y Y fun h => Zc (ov Y) Zii)<|Rq Y (.guarded ((decide (a.Param = b.Param)) == true) Y Y Y Y fun h => Zb (ow Y h) tS3 Y)<|Rq Y (.guarded ((decide (a.Param = b.Param)) == true) Y Y Y Y fun h => Zc (ov Y) Zii)<|Rq Y (.guarded ((decide (a.Param = b.Param)) == true) Y Y Y Y fun h => Zb (ow Y h) tS3 Y)<|Rq Y (.guarded ((decide (a.Param = b.Param)) == true) Y Y Y Y fun h => Xa (ow Y h)<|ow Y h)<|Rq Y (Jc (ov Y) fun hp=>ow Y<|gT hp)<|Rm Y<|Rq Y (.guarded (((decide (a.Param = b.Param)) && (decide (a.Index = b.Index))) == true) Y Y Y Y fun h => Zc (ov Y) ZjR)<|Rq Y (.guarded (((decide (a.Param = b.Param)) && (decide (a.Index = b.Index))) == true) Y Y Y Y fun h => Zb (ow Y h) tS3 Y)<|Rq Y (.guarded (((decide (a.Param = b.Param)) && (decide (a.Index = b.Index))) == true) Y Y Y Y fun h => Zc (ov Y) ZjR)<|Rq Y (.guarded (((decide (a.Param = b.Param)) && (decide (a.Index = b.Index))) == true) Y Y Y Y fun h => Zb (ow Y h) tS3 Y)<|Rq Y (.guarded (((decide (a.Param = b.Param)) && (decide (a.Index = b.Index))) == true) Y Y Y Y fun h => Xa (ow Y h)<|ow Y h)<|Rq Y (Jc (ov Y) fun hp=>ow Y<|gT hp)<|Rm Y<|Rq Y (.guarded ((((decide (a.Param = b.Param)) && (decide (a.Index = b.Index))) && (decide (a.Frame = b.Frame))) == true) Y Y Y Y fun h => Zc (ov Y) Zbe)<|Rq Y (.guarded ((((decide (a.Param = b.Param)) && (decide (a.Index = b.Index))) && (decide (a.Frame = b.Frame))) == true) Y Y Y Y fun h => Zb (ow Y h) Zfn Y)<|Rq Y (.guarded ((((decide (a.Param = b.Param)) && (decide (a.Index = b.Index))) && (decide (a.Frame = b.Frame))) == true) Y Y Y Y fun h => Zc (ov Y) Zbe)<|Rq Y (.guarded ((((decide (a.Param = b.Param)) && (decide (a.Index = b.Index))) && (decide (a.Frame = b.Frame))) == true) Y Y Y Y fun h => Zb (ow Y h) Zfn Y)<|bE h fun y h_y h=>Rq Y (.guarded ((((decide (a.Param = b.Param)) && (decide (a.Index = b.Index))) && (decide (a.Frame = b.Frame))) == true) Y Y Y Y fun h => Zp (J9<|gdT h_y h)<|.cons (ow Y h) (.b Y)<|.cons (ow Y h) (.b Y) .nil)<|Rq Y (Jc (ov Y) fun hp=>ow Y<|gT hp)<|Ra Y<|Za<|?_
 obtain rfl := rt h
 exact Zi (Zs Y (.one<|rb Y))
theorem Zd2 {l : List api_Cell} {r : (List (layout_bit × Int))} (h : JF l = some r) :
 GSpec Try.prog gl0 26 [.sl 34 (List.map R34 l)] [] (.mref 0 1) [some ⟨60, [[.mcon (List.map (Qz Xu FV3) r)]]⟩] := by
 unfold JF at h
 replace h := Qh h
 refine Zez (by kernel_rfl) Try.func26 Y Y<|?_
 intro w0 A W φ0
 refine Tr<|Ra Y<|Za<|K1 0 Y<|Tr<|Rx Y (ZbQ 0 Y ZgK)<|Ra Y<|Za<|I1 (fun out=>⟨[(3, .mref 0 1)], [some ⟨60, [[.mcon (List.map (Qz Xu FV3) out)]]⟩]⟩) h (fun h=>?_) fun out h=>?_
 ·
  refine K2 0 3 Y<|Tr<|Rm Y<|Rl tZ_34 Zar Y<|Rm Y<|Za<|Zf<|?_
  obtain ⟨r1, hl1, ho1⟩ := QS h
  refine L2 (fun out2 i=>⟨[(3, .mref 0 1), (7, .sl 34 (List.map R34 l)), (8, .int .i64 (l.length : Int)), (9, .int .i64 i)], [some ⟨60, [[.mcon (List.map (Qz Xu FV3) out2)]]⟩]⟩) hl1 (ES [some 0] (hhp := .cons Y (Qf (fk := Xu) (fv := FV3) (m := ([] : List (layout_bit × Int))) tZ_60 (fun _=>Xd<|rld Y) fun _=>.ren<|.dat Y) .nil)) fun n1 out2 i h=>?_
  unfold QG at h
  refine Tr<|R2 ZK Y<|Za<|Zh<|If h Y (fun h=>?_) fun h=>?_
  ·
   exact Ze<|Zh<|Zf<|K4 3 7 8 9 Y<|Tr<|Rm Y<|bE h fun x h_x h=>Rq Y (ZF (ov Y) (ov Y) Zar h_x)<|Rq Y (Zg (ov Y) ZbD Y Y)<|Rx Y (Zr (row := [_, _, _, _]) 1 Y Zfr Y tZ_34)<|Ra Y<|Rx Y (Zk (ov Y) (ov Y) (Zj ZbD Y) Y Y Y (Nat.le_of_ble_eq_true Y) (Zd Y) Y)<|Za<|K6 3 4 5 7 8 9 Y<|ZA<|Rm Y<|Rm Y<|Rq Y (Zm (ov Y) Y Y Zbe)<|Rq Y (Zl (ov Y) Y Y Y Zfn Y)<|bE h fun y h_y h=>Rx Y (ZcY [0] (ZbT h_y) (.cons (ov Y) (.mref _ Y)<|.cons (ov Y) (.dat Y)<|.cons (ov Y) (.dat Y) .nil) (.cons Y (Qf (fk := Xu) (fv := FV3) (m := out2) tZ_60 (fun _=>Xd<|rld Y) fun _=>.ren<|.dat Y) .nil) Y (.lent 0 (.inl Y) Y (Qf (fk := Xu) (fv := FV3) (m := y.2) tZ_60 (fun _=>Xd<|rld Y) fun _=>.ren<|.dat Y)<|.keep Y Y .nil) Y Y<|.dat Y)<|Za<|K4 3 7 8 9 Y<|ZA<|R2 Qk Y<|Rm Y<|Za<|⟨_, h, ES [some 0] (hhp := .cons Y (Qf (fk := Xu) (fv := FV3) (m := y.2) tZ_60 (fun _=>Xd<|rld Y) fun _=>.ren<|.dat Y) .nil)⟩
  ·
   refine ZE<|?_
   replace h := lx h ▸ ho1
   exact ⟨_, h, ES [some 0] (hhp := .cons Y (Qf (fk := Xu) (fv := FV3) (m := out2) tZ_60 (fun _=>Xd<|rld Y) fun _=>.ren<|.dat Y) .nil)⟩
 ·
  refine Tr<|Rm Y<|Ra Y<|Za<|?_
  obtain rfl := rt h
  exact Zi<|ZjC [some 0] Y (.cons (.tmp Y) .nil) (.cons Y (Qf (fk := Xu) (fv := FV3) (m := out) tZ_60 (fun _=>Xd<|rld Y) fun _=>.ren<|.dat Y) .nil) Y Y<|.mref _ Y
theorem Zgf {m : api_Map} {r : (Vector Int 16) × Int} (h : Zbv m = some r) :
 CSpec Try.prog gl0 11 [.agg [.int .i64 m.Version, .sl 44 (List.map R44 m.Params)]] (.tuple [.agg (List.map C3 r.1.toList), .int .i64 r.2]) := by
 unfold Zbv at h
 replace h := Qh h
 refine So Try.func11 Y fun w0 A=>Tr<|Rq Y (Z9 (cva<|ov Y) Y tZ_24 Y)<|Rx Y (Zr (row := (List.map C3 (Vector.replicate 16 0).toList)) 0 Y Zjc Y tZ_36)<|Ra Y<|Za<|K2 1 2 Y<|Tr<|Rx Y (Zr (row := (List.map C3 (Vector.replicate 16 0).toList)) 1 Y Zjc Y tZ_36)<|Za<|Zh<|Tr<|Rq Y (Zg (ov Y) Zb9 Y Y)<|bE h fun y h_y h=>Rq Y (Zp (Je h_y)<|.cons (ov Y) (.aggB Y) .nil)<|Rm Y<|Rq Y (Zy (ov Y) Y)<|Rq Y (Zy (ov Y) Y)<|Ra Y<|Ra Y<|Za<|K4 1 2 4 6 Y<|Tr<|Rm Y<|R2 QY Y<|Za<|K5 1 2 4 6 15 Y<|If h Y (fun h=>?_) fun h=>?_
 ·
  refine K3 2 4 6 Y<|Tr<|Rq Y (ZV (ov Y) Y Y Y Zd3 (JC<|Z8 arL) arL (hns := (nsM fun _ => Y)))<|Rm Y<|Rx Y (Zk (ov Y) (ov Y) (Zj Zd3 arL) Y Y Y (ZcM (Z8 arL) arL) (Zd<|arC fun _ => Y)<|ZbI<|Eq.trans arL<|Eq.symm arL)<|Ra Y<|Za<|?_
  obtain rfl := rt h
  exact Zi (Zs Y (.two (.agg Y Y Y Y Zd3 (JC<|Z8 arL) arL (pwB<|arD fun _ => Y) (hns := (nsM fun _ => Y)))<|rb Y))
 ·
  refine Ze<|I1 (fun out=>⟨[(1, .rp [.int .i64 m.Version, .sl 44 (List.map R44 m.Params)] 0), (2, .ptr 0 1 0 0), (4, .ptr 1 1 0 0)], [some ⟨36, [(List.map C3 (Vector.replicate 16 0).toList)]⟩, some ⟨36, [(List.map C3 out.toList)]⟩]⟩) h (fun h=>?_) fun out h=>?_
  ·
   refine K3 1 2 4 Y<|Tr<|Rm Y<|Za<|Zf<|?_
   obtain ⟨r1, hl1, ho1⟩ := QS h
   refine L2 (fun out2 i=>⟨[(1, .rp [.int .i64 m.Version, .sl 44 (List.map R44 m.Params)] 0), (2, .ptr 0 1 0 0), (4, .ptr 1 1 0 0), (18, .int .i64 i)], [some ⟨36, [(List.map C3 (Vector.replicate 16 0).toList)]⟩, some ⟨36, [(List.map C3 out2.toList)]⟩]⟩) hl1 (ES [some 0, some 1]) fun n1 out2 i h=>?_
   unfold Zb0 at h
   refine Tr<|R2 ZK Y<|Za<|Zh<|If h Y (fun h=>?_) fun h=>?_
   ·
    exact Ze<|Zh<|Zf<|K4 1 2 4 18 Y<|Tr<|Rm Y<|Ra Y<|Za<|K5 1 2 4 7 18 Y<|ZA<|Rm Y<|bE h fun x h_x h=>Rq Y (Jz (ov Y) (ov Y) ZiR Y Y h_x)<|Rx Y (Zk (ov Y) (ov Y) (Qm tS3) Y Y Y (arB h_x) (Zd Y)<|arS h_x)<|Za<|K4 1 2 4 18 Y<|ZA<|R2 Qk Y<|Rm Y<|Za<|⟨_, h, ES [some 0, some 1]⟩
   ·
    refine ZE<|?_
    replace h := lx h ▸ ho1
    exact ⟨_, h, ES [some 0, some 1]⟩
  ·
   refine Zh<|ZlS<|ZlV _ Y (Zg (ov Y) Zb9 Y Y)<|bE h fun y2 h_y2 h=>ZlV _ Y (Zp (Zaj h_y2)<|.cons (ov Y) (.aggB Y) .nil)<|bE h fun y3 h_y3 h=>Zmw _ _ Y (ZcY [] (Zd2 h_y3) (.cons (ov Y) (.dat Y) .nil) .nil Y (.keep Y Y<|.keep Y Y<|.lent 0 (.inr ⟨Nat.le_of_ble_eq_true Y, Y⟩) Y (Qf (fk := Xu) (fv := FV3) (m := y3) tZ_60 (fun _=>Xd<|rld Y) fun _=>.ren<|.dat Y) .nil) Y Y<|.mref _<|.inr ⟨Nat.le_of_ble_eq_true Y, Y⟩)<|bE h fun out3 h_out3 h=>Zi3 (fk := Xu) (fv := FV3) (m := y3) (rm := 2) ZZ ZdU (fun acc=>[(2, .ptr 0 1 0 0), (4, .ptr 1 1 0 0)]) (fun acc=>[some ⟨36, [(List.map C3 (Vector.replicate 16 0).toList)]⟩, some ⟨36, [(List.map C3 acc.toList)]⟩, some ⟨60, [[.mcon (List.map (Qz Xu FV3) y3)]]⟩]) out h_out3 (ov Y) ZgK 3 (fun _=>Y) (fun _=>Y) (fun _=>Y) (kc 2 Y<|kc 4 Y kn) Y Y Y (fun pv kv acc s2 hs w A W φ=>?_) fun pv=>?_
   ·
    show R _ _ _ ⟨[(30, .tuple [.agg [.int .i64 kv.1.frame, .int .i64 kv.1.word, .int .i64 kv.1.bit], .int .i64 kv.2]), (29, .bool true), (28, .any), (27, .lit pv), (2, .ptr 0 1 0 0), (4, .ptr 1 1 0 0)], [some ⟨36, [(List.map C3 (Vector.replicate 16 0).toList)]⟩, some ⟨36, [(List.map C3 acc.toList)]⟩, some ⟨60, [[.mcon (List.map (Qz Xu FV3) y3)]]⟩]⟩ _
    replace h := hs
    unfold ZZ at h
    replace h := Qh h
    refine Rq Y (Zy (ov Y) Y)<|Rx Y (Zr (row := [_, _, _]) 3 Y Zln Y tZ_63)<|Rx Y (Zk (ov Y) (ov Y) (Zj Zjv Y) Y Y Y (Nat.le_of_ble_eq_true Y) (Zd Y) Y)<|Za<|K4 2 4 8 27 Y<|ZA<|Rq Y (Zm (ov Y) Y Y Zlz)<|Rq Y (Zl (ov Y) Y Y Y tS3 Y)<|bE h fun x2 h_x2 h=>Rq Y (Jz (ov Y) (ov Y) ZiR Y Y h_x2)<|Rq Y (Zl (ov Y) Y Y Y tS3<|Zb3<|ZdC (o := 0) (o' := (kv.1.frame.toNat * 1)) (Z8 arL)<|ZdF h_x2)<|R2 ZcG Y<|bE h fun x3 h_x3 h=>Rq Y (Jz (ov Y) (ov Y) ZiR Y Y h_x3)<|Rx Y (Zk (ov Y) (ov Y) (Qm tS3) Y Y Y (arB h_x3) (Zd Y)<|arS h_x3)<|Za<|?_
    obtain rfl := rt h
    exact ⟨rfl, Ent.sel [some 0, some 1, some 2] (sd 27 rfl rfl <| sr 2 rfl (.ptr _ _ _ rfl) <| sr 4 rfl (.ptr _ _ _ rfl) <| sn) (.cons rfl (ro1 (by exact Eq.trans (b := 16) arL tZ_36.symm) (rld (arD fun _ => rfl))) <| .cons rfl (ro1 (by exact Eq.trans (b := 16) arL tZ_36.symm) (rld (arD fun _ => rfl))) <| .cons rfl (Qf (fk := Xu) (fv := FV3) (m := y3) tZ_60 (fun _ => Xd (rld rfl)) (fun _ => .ren (.dat rfl))) <| .nil) rfl rfl⟩
   ·
    refine K2 2 4 Y<|Tr<|Rq Y (ZV (ov Y) Y Y Y Zd3 (JC<|Z8 arL) arL (hns := (nsM fun _ => Y)))<|Rx Y (Zk (ov Y) (ov Y) (Zj Zd3 arL) Y Y Y (ZcM (Z8 arL) arL) (Zd<|arC fun _ => Y)<|ZbI<|Eq.trans arL<|Eq.symm arL)<|Ra Y<|Za<|?_
    obtain rfl := rt h
    exact Zi (Zs Y (.two (.agg Y Y Y Y Zd3 (JC<|Z8 arL) arL (pwB<|arD fun _ => Y) (hns := (nsM fun _ => Y)))<|rb Y))
theorem Zg7 {m : api_Map} {r : (Vector Int 16) × Int} (h : Zcp m = some r) :
 CSpec Try.prog gl0 12 [.agg [.int .i64 m.Version, .sl 44 (List.map R44 m.Params)]] (.tuple [.agg (List.map C3 r.1.toList), .int .i64 r.2]) := by
 unfold Zcp at h
 replace h := Qh h
 refine So Try.func12 Y fun w0 A=>Tr<|Rq Y (Z9 (cva<|ov Y) Y tZ_24 Y)<|Rx Y (Zr (row := (List.map C3 (Vector.replicate 16 0).toList)) 0 Y Zjc Y tZ_36)<|Ra Y<|Za<|K2 1 2 Y<|Tr<|Rx Y (Zr (row := (List.map C3 (Vector.replicate 16 0).toList)) 1 Y Zjc Y tZ_36)<|Za<|Zh<|Tr<|Rq Y (Zg (ov Y) Zb9 Y Y)<|bE h fun y h_y h=>Rq Y (Zp (Zck h_y)<|.cons (ov Y) (.aggB Y) .nil)<|Rm Y<|Rq Y (Zy (ov Y) Y)<|Rq Y (Zy (ov Y) Y)<|Ra Y<|Ra Y<|Za<|K4 1 2 4 6 Y<|Tr<|Rm Y<|R2 QY Y<|Za<|K5 1 2 4 6 18 Y<|If h Y (fun h=>?_) fun h=>?_
 ·
  refine K3 2 4 6 Y<|Tr<|Rq Y (ZV (ov Y) Y Y Y Zd3 (JC<|Z8 arL) arL (hns := (nsM fun _ => Y)))<|Rm Y<|Rx Y (Zk (ov Y) (ov Y) (Zj Zd3 arL) Y Y Y (ZcM (Z8 arL) arL) (Zd<|arC fun _ => Y)<|ZbI<|Eq.trans arL<|Eq.symm arL)<|Ra Y<|Za<|?_
  obtain rfl := rt h
  exact Zi (Zs Y (.two (.agg Y Y Y Y Zd3 (JC<|Z8 arL) arL (pwB<|arD fun _ => Y) (hns := (nsM fun _ => Y)))<|rb Y))
 ·
  refine Ze<|I1 (fun out=>⟨[(1, .rp [.int .i64 m.Version, .sl 44 (List.map R44 m.Params)] 0), (2, .ptr 0 1 0 0), (4, .ptr 1 1 0 0)], [some ⟨36, [(List.map C3 (Vector.replicate 16 0).toList)]⟩, some ⟨36, [(List.map C3 out.toList)]⟩]⟩) h (fun h=>?_) fun out h=>?_
  ·
   refine K3 1 2 4 Y<|Tr<|Rm Y<|Za<|Zf<|?_
   obtain ⟨r1, hl1, ho1⟩ := QS h
   refine L2 (fun out2 i=>⟨[(1, .rp [.int .i64 m.Version, .sl 44 (List.map R44 m.Params)] 0), (2, .ptr 0 1 0 0), (4, .ptr 1 1 0 0), (21, .int .i64 i)], [some ⟨36, [(List.map C3 (Vector.replicate 16 0).toList)]⟩, some ⟨36, [(List.map C3 out2.toList)]⟩]⟩) hl1 (ES [some 0, some 1]) fun n1 out2 i h=>?_
   unfold ZcT at h
   refine Tr<|R2 ZK Y<|Za<|Zh<|If h Y (fun h=>?_) fun h=>?_
   ·
    exact Ze<|Zh<|Zf<|K4 1 2 4 21 Y<|Tr<|Rm Y<|Ra Y<|Za<|K5 1 2 4 7 21 Y<|ZA<|Rm Y<|bE h fun x h_x h=>Rq Y (Jz (ov Y) (ov Y) ZiR Y Y h_x)<|Rx Y (Zk (ov Y) (ov Y) (Qm tS3) Y Y Y (arB h_x) (Zd Y)<|arS h_x)<|Za<|K4 1 2 4 21 Y<|ZA<|R2 Qk Y<|Rm Y<|Za<|⟨_, h, ES [some 0, some 1]⟩
   ·
    refine ZE<|?_
    replace h := lx h ▸ ho1
    exact ⟨_, h, ES [some 0, some 1]⟩
  ·
   refine I1 (fun out3=>⟨[(2, .ptr 0 1 0 0), (4, .ptr 1 1 0 0)], [some ⟨36, [(List.map C3 (Vector.replicate 16 0).toList)]⟩, some ⟨36, [(List.map C3 out3.toList)]⟩]⟩) h (fun h=>?_) fun out3 h=>?_
   ·
    refine Tr<|Rq Y (Zg (ov Y) Zb9 Y Y)<|bE h fun y2 h_y2 h=>Rq Y (Zp (Zcl h_y2)<|.cons (ov Y) (.aggB Y) .nil)<|Rl tZ_34 Zar Y<|Rm Y<|Za<|Zf<|?_
    obtain ⟨r2, hl2, ho2⟩ := QS h
    refine L2 (fun out4 i2=>⟨[(2, .ptr 0 1 0 0), (4, .ptr 1 1 0 0), (28, .sl 34 (List.map R34 y2)), (29, .int .i64 (y2.length : Int)), (30, .int .i64 i2)], [some ⟨36, [(List.map C3 (Vector.replicate 16 0).toList)]⟩, some ⟨36, [(List.map C3 out4.toList)]⟩]⟩) hl2 (ES [some 0, some 1]) fun n2 out4 i2 h=>?_
    unfold JJ at h
    refine Tr<|R2 ZK Y<|Za<|Zh<|If h Y (fun h=>?_) fun h=>?_
    ·
     refine Ze<|I1 (fun out5=>⟨[(2, .ptr 0 1 0 0), (4, .ptr 1 1 0 0), (28, .sl 34 (List.map R34 y2)), (29, .int .i64 (y2.length : Int)), (30, .int .i64 i2)], [some ⟨36, [(List.map C3 (Vector.replicate 16 0).toList)]⟩, some ⟨36, [(List.map C3 out5.toList)]⟩]⟩) h (fun h=>?_) fun out5 h=>?_
     ·
      refine Zf<|K5 2 4 28 29 30 Y<|Tr<|bE h fun x2 h_x2 h=>Rq Y (ZF (ov Y) (ov Y) Zar h_x2)<|Rq Y (Zg (ov Y) ZbD Y Y)<|Rx Y (Zr (row := [_, _, _, _]) 2 Y Zfr Y tZ_34)<|Rx Y (Zk (ov Y) (ov Y) (Zj ZbD Y) Y Y Y (Nat.le_of_ble_eq_true Y) (Zd Y) Y)<|Za<|K6 2 4 9 28 29 30 Y<|Tr<|Rq Y (Zm (ov Y) Y Y Zbe)<|Rq Y (Zl (ov Y) Y Y Y Zfn Y)<|Rl tZ_59 ZcW Y<|Rm Y<|Za<|Zf<|?_
      obtain ⟨r3, hl3, ho3⟩ := QS h
      refine L2 (fun out6 i3=>⟨[(2, .ptr 0 1 0 0), (4, .ptr 1 1 0 0), (28, .sl 34 (List.map R34 y2)), (29, .int .i64 (y2.length : Int)), (30, .int .i64 i2), (35, .sl 59 (List.map R59 x2.Places)), (36, .int .i64 (x2.Places.length : Int)), (37, .int .i64 i3)], [some ⟨36, [(List.map C3 (Vector.replicate 16 0).toList)]⟩, some ⟨36, [(List.map C3 out6.toList)]⟩]⟩) hl3 (ES [some 0, some 1]) fun n3 out6 i3 h=>?_
      unfold JH at h
      refine Tr<|R2 ZK Y<|Za<|Zh<|If h Y (fun h=>?_) fun h=>?_
      ·
       exact Ze<|Zh<|Zf<|K8 2 4 28 29 30 35 36 37 Y<|Tr<|bE h fun x3 h_x3 h=>Rq Y (ZF (ov Y) (ov Y) ZcW h_x3)<|Rq Y (Zg (ov Y) Zeg Y Y)<|Rx Y (Zr (row := [_, _, _, _]) 2 Y ZhT Y tZ_59)<|Rx Y (Zk (ov Y) (ov Y) (Zj Zeg Y) Y Y Y (Nat.le_of_ble_eq_true Y) (Zd Y) Y)<|Za<|K9 2 4 11 28 29 30 35 36 37 Y<|Zfo (cw := md0) (by kernel_rfl)<|Dq 0 Y (Zm (ov Y) Y Y Zf7)<|Dq 1 Y (Zl (ov Y) Y Y Y tS3 Y)<|bE h fun x4 h_x4 h=>Dq 2 Y (Jz (ov Y) (ov Y) ZiR Y Y h_x4)<|Dq 3 Y (Zl (ov Y) Y Y Y tS3<|Zb3<|ZdC (o := 0) (o' := (x3.Frame.toNat * 1)) (Z8 arL)<|ZdF h_x4)<|Dq 4 Y (Zm (ov Y) Y Y Zel)<|Dq 5 Y (Zl (ov Y) Y Y Y tS3 Y)<|D2 6 ZcG Y<|bE h fun x5 h_x5 h=>Dq 7 Y (Jz (ov Y) (ov Y) ZiR Y Y h_x5)<|Do 8 Y (Zk (ov Y) (ov Y) (Qm tS3) Y Y Y (arB h_x5) (Zd Y)<|arS h_x5)<|Dd<|K8 2 4 28 29 30 35 36 37 Y<|ZA<|R2 Qk Y<|Rm Y<|Za<|⟨_, h, ES [some 0, some 1]⟩
      ·
       refine ZE<|?_
       replace h := lx h ▸ ho3
       exact ⟨_, h, ES [some 0, some 1]⟩
     ·
      exact ZA<|R2 Qk Y<|Rm Y<|Za<|⟨_, h, ES [some 0, some 1]⟩
    ·
     refine ZE<|?_
     replace h := lx h ▸ ho2
     exact ⟨_, h, ES [some 0, some 1]⟩
   ·
    refine Tr<|Rq Y (ZV (ov Y) Y Y Y Zd3 (JC<|Z8 arL) arL (hns := (nsM fun _ => Y)))<|Rx Y (Zk (ov Y) (ov Y) (Zj Zd3 arL) Y Y Y (ZcM (Z8 arL) arL) (Zd<|arC fun _ => Y)<|ZbI<|Eq.trans arL<|Eq.symm arL)<|Ra Y<|Za<|?_
    obtain rfl := rt h
    exact Zi (Zs Y (.two (.agg Y Y Y Y Zd3 (JC<|Z8 arL) arL (pwB<|arD fun _ => Y) (hns := (nsM fun _ => Y)))<|rb Y))
end Go.Proofs.Ytjjlfkjacmhcmaa
