/- A text of the proof: a verified executor of the program form, or the contracts of the functions that the law reaches. -/
import Derived.Test.YtagddpmlkcgbaaaOkLa
set_option linter.all false
namespace Go.Proofs.Ytagddpmlkcgbaaa
open Go Go.Vx
set_option maxRecDepth 10000
set_option maxHeartbeats 1000000
set_option linter.unusedVariables false
theorem QI {n : Int} {low : Int} {high : Int} {r : Bool} (h : Qr n low high = some r) :
 CSpec Try.prog gl0 29 [.int .i64 n, .int .i64 low, .int .i64 high] (.bool r) := by
 unfold Qr at h
 replace h := Qh h
 refine So Try.func29 Y fun w0 A=>Tr<|Ra Y<|Za<|Tr<|Rm Y<|Rm Y<|R2 ZH Y<|Rm Y<|Rq Y (.guarded ((decide (n < low)) == false) Y Y Y Y fun h => Zm<|ov Y)<|Rq Y (.guarded ((decide (n < low)) == false) Y Y Y Y fun h => Zm<|ov Y)<|Rq Y (.guarded ((decide (n < low)) == false) Y Y Y Y fun h => Ji (ow Y h)<|ow Y h)<|Rq Y (QZ (ov Y) fun hp=>ow Y<|gF hp)<|Ra Y<|Za<|?_
 obtain rfl := rt h
 exact Zk (Zq Y (.one<|rb Y))
theorem ZdF {s : Str} {r : Bool} (h : ZaC s = some r) :
 CSpec Try.prog gl0 47 [.str s] (.bool r) := by
 unfold ZaC at h
 replace h := Qh h
 refine So Try.func47 Y fun w0 A=>Tr<|Ra Y<|Za<|J0 (fun j => (.inr j)) ⟨[(0, .str s)], []⟩ h (fun h=>?_) fun h=>?_
 ·
  refine K1 0 Y<|Tr<|Ra Y<|Za<|Ze<|?_
  obtain ⟨r1, hl1, ho1⟩ := Qu h
  refine L1 (fun i=>⟨[(0, .str s), (3, .int .i64 i)], []⟩) hl1 (ES []) fun n1 i h=>?_
  unfold XS at h
  refine Zh<|Tr<|Rm Y<|Rm Y<|Rq Y (Zdt (ov Y) ZfA Y)<|R2 ZH Y<|Za<|K3 0 3 8 Y<|If h Y (fun h=>?_) fun h=>?_
  ·
   refine Zd<|Zh<|Ze<|K2 0 3 Y<|Tr<|Rm Y<|Rm Y<|bE h fun b h_b h=>Rq Y (Zf0 (ov Y) (ov Y) ZfA h_b)<|Ra Y<|Za<|K3 0 3 4 Y<|Tr<|Rm Y<|R2 Zb9 Y<|Rm Y<|Rq Y (.guarded ((decide (97 ≤ b)) == true) Y Y Y Y fun h => Zm<|ov Y)<|Rq Y (.guarded ((decide (97 ≤ b)) == true) Y Y Y Y fun h => Zgx (ow Y h)<|ov Y)<|Rq Y (XF (ov Y) fun hp=>ow Y<|gT hp)<|Rm Y<|Rq Y (.guarded (((decide (97 ≤ b)) && (decide (b ≤ 122))) == false) Y Y Y Y fun h => Zm<|ov Y)<|Rq Y (.guarded (((decide (97 ≤ b)) && (decide (b ≤ 122))) == false) Y Y Y Y fun h => Ji (ow Y h)<|ov Y)<|Rq Y (.guarded (((decide (97 ≤ b)) && (decide (b ≤ 122))) == false) Y Y Y Y fun h => Zm<|ow Y h)<|Rq Y (.guarded2 ((((decide (97 ≤ b)) && (decide (b ≤ 122))) == false) && ((decide (0 < i)) == true)) Y Y Y Y fun h => Zm<|ov Y)<|Rq Y (.guarded2 ((((decide (97 ≤ b)) && (decide (b ≤ 122))) == false) && ((decide (0 < i)) == true)) Y Y Y Y fun h => Zb9 (ow Y h)<|ov Y)<|Rq Y (.guarded2 ((((decide (97 ≤ b)) && (decide (b ≤ 122))) == false) && ((decide (0 < i)) == true)) Y Y Y Y fun h => Zm<|ow Y h)<|Rq Y (.guarded2 (((((decide (97 ≤ b)) && (decide (b ≤ 122))) == false) && ((decide (0 < i)) == true)) && ((decide (48 ≤ b)) == true)) Y Y Y Y fun h => Zm<|ov Y)<|Rq Y (.guarded2 (((((decide (97 ≤ b)) && (decide (b ≤ 122))) == false) && ((decide (0 < i)) == true)) && ((decide (48 ≤ b)) == true)) Y Y Y Y fun h => Zgx (ow Y h)<|ov Y)<|Rq Y (.guarded2 ((((decide (97 ≤ b)) && (decide (b ≤ 122))) == false) && ((decide (0 < i)) == true)) Y Y Y Y fun h => XF (ow Y h) fun hp=>ow Y<|gA h<|gT hp)<|Rq Y (.guarded2 ((((decide (97 ≤ b)) && (decide (b ≤ 122))) == false) && ((decide (0 < i)) == true)) Y Y Y Y fun h => Zm<|ow Y h)<|Rq Y (.guarded2 (((((decide (97 ≤ b)) && (decide (b ≤ 122))) == false) && ((decide (0 < i)) == true)) && (((decide (48 ≤ b)) && (decide (b ≤ 57))) == false)) Y Y Y Y fun h => Zm<|ov Y)<|Rq Y (.guarded2 (((((decide (97 ≤ b)) && (decide (b ≤ 122))) == false) && ((decide (0 < i)) == true)) && (((decide (48 ≤ b)) && (decide (b ≤ 57))) == false)) Y Y Y Y fun h => QQ (ow Y h)<|ov Y)<|Rq Y (.guarded2 ((((decide (97 ≤ b)) && (decide (b ≤ 122))) == false) && ((decide (0 < i)) == true)) Y Y Y Y fun h => QZ (ow Y h) fun hp=>ow Y<|gA h<|gF hp)<|Rq Y (.guarded (((decide (97 ≤ b)) && (decide (b ≤ 122))) == false) Y Y Y Y fun h => XF (ow Y h) fun hp=>ow Y<|gA h<|gT hp)<|Rq Y (QZ (ov Y) fun hp=>ow Y<|gF hp)<|R1 Xb Y<|Za<|K3 0 3 36 Y<|If h Y (fun h=>?_) fun h=>?_
   ·
    refine K0<|Tr<|Ra Y<|Za<|?_
    replace h := lx h ▸ ho1
    obtain rfl := rt h
    exact Zk (Zq Y (.one<|rb Y))
   ·
    exact Zd<|K2 0 3 Y<|Zs<|Rm Y<|R2 ZX Y<|Ra Y<|Za<|⟨_, h, ES []⟩
  ·
   refine Zz<|?_
   replace h := lx h ▸ ho1
   exact ⟨_, h, ES []⟩
 ·
  replace h := elr h
  replace h := t0i h
  refine Tr<|Rm Y<|Rq Y (Zdt (ov Y) ZfA Y)<|R2 Zb9 Y<|Rm Y<|Rq Y (.guarded ((decide (1 ≤ (s.length : Int))) == true) Y Y Y Y fun h => Zm<|ov Y)<|Rq Y (.guarded ((decide (1 ≤ (s.length : Int))) == true) Y Y Y Y fun h => Zdt (ow Y h) ZfA Y)<|Rq Y (.guarded ((decide (1 ≤ (s.length : Int))) == true) Y Y Y Y fun h => Zgx (ow Y h)<|ov Y)<|Rq Y (XF (ov Y) fun hp=>ow Y<|gT hp)<|Ra Y<|Za<|?_
  obtain rfl := rt h
  exact Zk (Zq Y (.one<|rb Y))
theorem ZbQ {p : api_Param} {r : Int} (h : Zbm p = some r) :
 CSpec Try.prog gl0 17 [.agg [.str p.Name, .int .i64 p.Kind, .sl 49 (List.map R49 p.Parts), .int .i64 p.First, .int .i64 p.Every, .int .i64 p.Times, .int .i64 p.Step, .sl 9 (List.map R9 p.Names)]] (.int .i64 r) := by
 unfold Zbm at h
 replace h := Qh h
 refine So Try.func17 Y fun w0 A=>Tr<|Rq Y (Z3 (cva<|ov Y) Y tZ_36 Y)<|Ra Y<|Za<|K1 1 Y<|Tr<|Ra Y<|Za<|I1 (fun n=>⟨[(3, .int .i64 n)], []⟩) h (fun h=>?_) fun n h=>?_
 ·
  refine Tr<|Rq Y (Zc (ov Y) XQ)<|Rq Y (Zb (ov Y) ZcE Y)<|Rl tZ_49 JD Y<|Rm Y<|Za<|Ze<|?_
  obtain ⟨r1, hl1, ho1⟩ := Qu h
  refine L2 (fun n2 i=>⟨[(3, .int .i64 n2), (7, .sl 49 (List.map R49 p.Parts)), (8, .int .i64 (p.Parts.length : Int)), (9, .int .i64 i)], []⟩) hl1 (ES []) fun n1 n2 i h=>?_
  unfold ZeH at h
  refine Tr<|R2 ZH Y<|Za<|Zh<|If h Y (fun h=>?_) fun h=>?_
  ·
   exact Zd<|Zh<|Ze<|K4 3 7 8 9 Y<|Tr<|bE h fun x h_x h=>Rq Y (Zw (ov Y) (ov Y) JD h_x)<|Rq Y (Zg (ov Y) ZbR Y Y)<|Rx Y (Zr (row := [_, _, _, _]) 0 Y Zgz Y tZ_49)<|Rx Y (Zo (ov Y) (ov Y) (Zl ZbR Y) Y Y Y (Nat.le_of_ble_eq_true Y) (Zf Y) Y)<|Za<|K5 3 5 7 8 9 Y<|Zs<|Rm Y<|Rq Y (Zi (ov Y) Y Y Zfn)<|Rq Y (Zj (ov Y) Y Y Y tS3 Y)<|R2 ZX Y<|Ra Y<|Za<|K4 3 7 8 9 Y<|Zs<|R2 ZX Y<|Rm Y<|Za<|⟨_, h, ES []⟩
  ·
   refine Zz<|?_
   replace h := lx h ▸ ho1
   exact ⟨_, h, ES []⟩
 ·
  refine Tr<|Rm Y<|Ra Y<|Za<|?_
  obtain rfl := rt h
  exact Zk (Zq Y (.one<|rb Y))
theorem Zee {p : api_Param} {r : Int} (h : Jj p = some r) :
 CSpec Try.prog gl0 48 [.agg [.str p.Name, .int .i64 p.Kind, .sl 49 (List.map R49 p.Parts), .int .i64 p.First, .int .i64 p.Every, .int .i64 p.Times, .int .i64 p.Step, .sl 9 (List.map R9 p.Names)]] (.int .i64 r) := by
 unfold Jj at h
 replace h := Qh h
 refine So Try.func48 Y fun w0 A=>Tr<|Rq Y (Z3 (cva<|ov Y) Y tZ_36 Y)<|Ra Y<|Za<|Zh<|K1 1 Y<|Tr<|Rq Y (Zc (ov Y) XQ)<|Rq Y (Zb (ov Y) ZcE Y)<|Rl tZ_49 JD Y<|R2 QQ Y<|Za<|K2 1 8 Y<|If h Y (fun h=>?_) fun h=>?_
 ·
  refine K0<|Tr<|Ra Y<|Za<|?_
  obtain rfl := rt h
  exact Zk (Zq Y (.one<|rb Y))
 ·
  refine Zd<|Zh<|K1 1 Y<|Tr<|Rq Y (Zc (ov Y) XQ)<|Rq Y (Zb (ov Y) ZcE Y)<|Rl tZ_49 JD Y<|R2 Ji Y<|Za<|K2 1 12 Y<|If h Y (fun h=>?_) fun h=>?_
  ·
   refine K0<|Tr<|Ra Y<|Za<|?_
   obtain rfl := rt h
   exact Zk (Zq Y (.one<|rb Y))
  ·
   refine Zd<|J0 (fun j => (.inr j)) ⟨[(1, .rp [.str p.Name, .int .i64 p.Kind, .sl 49 (List.map R49 p.Parts), .int .i64 p.First, .int .i64 p.Every, .int .i64 p.Times, .int .i64 p.Step, .sl 9 (List.map R9 p.Names)] 0)], []⟩ h (fun h=>?_) fun h=>?_
   ·
    refine K1 1 Y<|Tr<|Rq Y (Zc (ov Y) XQ)<|Rq Y (Zb (ov Y) ZcE Y)<|Rl tZ_49 JD Y<|Rm Y<|Za<|Ze<|?_
    obtain ⟨r1, hl1, ho1⟩ := Qu h
    refine L1 (fun i=>⟨[(1, .rp [.str p.Name, .int .i64 p.Kind, .sl 49 (List.map R49 p.Parts), .int .i64 p.First, .int .i64 p.Every, .int .i64 p.Times, .int .i64 p.Step, .sl 9 (List.map R9 p.Names)] 0), (14, .sl 49 (List.map R49 p.Parts)), (15, .int .i64 (p.Parts.length : Int)), (16, .int .i64 i)], []⟩) hl1 (ES []) fun n1 i h=>?_
    unfold X2 at h
    refine Tr<|R2 ZH Y<|Za<|Zh<|If h Y (fun h=>?_) fun h=>?_
    ·
     refine Zd<|Zh<|Ze<|K4 1 14 15 16 Y<|Tr<|bE h fun x h_x h=>Rq Y (Zw (ov Y) (ov Y) JD h_x)<|Rq Y (Zg (ov Y) ZbR Y Y)<|Rx Y (Zr (row := [_, _, _, _]) 0 Y Zgz Y tZ_49)<|Rx Y (Zo (ov Y) (ov Y) (Zl ZbR Y) Y Y Y (Nat.le_of_ble_eq_true Y) (Zf Y) Y)<|Za<|K5 1 4 14 15 16 Y<|Tr<|Rq Y (Zi (ov Y) Y Y Zfq)<|Rq Y (Zj (ov Y) Y Y Y tS3 Y)<|bE h fun y h_y h=>Rq Y (Zp (QI h_y)<|.cons (ov Y) (.b Y)<|.cons (ov Y) (.b Y)<|.cons (ov Y) (.b Y) .nil)<|Rm Y<|Rq Y (.guarded (y == false) Y Y Y Y fun h => Zi (ov Y) Y Y Zfu)<|Rq Y (.guarded (y == false) Y Y Y Y fun h => Zj (ow Y h) Y Y Y tS3 Y)<|bE h fun y2 h_y2 h=>Rq Y (.guarded (y == false) Y Y Y Y fun h => Zp (QI<|gdT h_y2 h)<|.cons (ow Y h) (.b Y)<|.cons (ov Y) (.b Y)<|.cons (ov Y) (.b Y) .nil)<|Rq Y (QZ (ov Y) fun hp=>ow Y<|gF hp)<|Rm Y<|Rq Y (.guarded ((y || y2) == false) Y Y Y Y fun h => Zi (ov Y) Y Y Zfw)<|Rq Y (.guarded ((y || y2) == false) Y Y Y Y fun h => Zj (ow Y h) Y Y Y tS3 Y)<|bE h fun y3 h_y3 h=>Rq Y (.guarded ((y || y2) == false) Y Y Y Y fun h => Zp (QI<|gdT h_y3 h)<|.cons (ow Y h) (.b Y)<|.cons (ov Y) (.b Y)<|.cons (ov Y) (.b Y) .nil)<|Rq Y (QZ (ov Y) fun hp=>ow Y<|gF hp)<|Rm Y<|Rq Y (.guarded (((y || y2) || y3) == false) Y Y Y Y fun h => Zi (ov Y) Y Y Zfn)<|Rq Y (.guarded (((y || y2) || y3) == false) Y Y Y Y fun h => Zj (ow Y h) Y Y Y tS3 Y)<|Rq Y (.guarded (((y || y2) || y3) == false) Y Y Y Y fun h => Zi (ov Y) Y Y Zfw)<|Rq Y (.guarded (((y || y2) || y3) == false) Y Y Y Y fun h => Zj (ow Y h) Y Y Y tS3 Y)<|Rq Y (.guarded (((y || y2) || y3) == false) Y Y Y Y fun h => ZgG (ov Y) (ow Y h) Y)<|bE h fun y4 h_y4 h=>Rq Y (.guarded (((y || y2) || y3) == false) Y Y Y Y fun h => Zp (QI<|gdT h_y4 h)<|.cons (ow Y h) (.b Y)<|.cons (ov Y) (.b Y)<|.cons (ow Y h) (.b Y) .nil)<|Rq Y (QZ (ov Y) fun hp=>ow Y<|gF hp)<|Za<|K5 1 14 15 16 40 Y<|If h Y (fun h=>?_) fun h=>?_
     ·
      refine K0<|Tr<|Ra Y<|Za<|?_
      replace h := lx h ▸ ho1
      obtain rfl := rt h
      exact Zk (Zq Y (.one<|rb Y))
     ·
      exact Zd<|K4 1 14 15 16 Y<|Zs<|R2 ZX Y<|Rm Y<|Za<|⟨_, h, ES []⟩
    ·
     refine Zz<|?_
     replace h := lx h ▸ ho1
     exact ⟨_, h, ES []⟩
   ·
    replace h := elr h
    replace h := t0i h
    refine Zh<|Tr<|Rq Y (Zg (ov Y) Qi Y Y)<|bE h fun y5 h_y5 h=>Rq Y (Zp (ZbQ h_y5)<|.cons (ov Y) (.aggB Y) .nil)<|R2 Ji Y<|Za<|K1 44 Y<|If h Y (fun h=>?_) fun h=>?_
    ·
     refine K0<|Tr<|Ra Y<|Za<|?_
     obtain rfl := rt h
     exact Zk (Zq Y (.one<|rb Y))
    ·
     refine Zd<|K0<|Tr<|Ra Y<|Za<|?_
     obtain rfl := rt h
     exact Zk (Zq Y (.one<|rb Y))
theorem Zet {p : api_Param} {r : Int} (h : Jf p = some r) :
 CSpec Try.prog gl0 49 [.agg [.str p.Name, .int .i64 p.Kind, .sl 49 (List.map R49 p.Parts), .int .i64 p.First, .int .i64 p.Every, .int .i64 p.Times, .int .i64 p.Step, .sl 9 (List.map R9 p.Names)]] (.int .i64 r) := by
 unfold Jf at h
 replace h := Qh h
 refine So Try.func49 Y fun w0 A=>Tr<|Rq Y (Z3 (cva<|ov Y) Y tZ_36 Y)<|Ra Y<|Za<|J0 (fun j => (.inr j)) ⟨[(1, .rp [.str p.Name, .int .i64 p.Kind, .sl 49 (List.map R49 p.Parts), .int .i64 p.First, .int .i64 p.Every, .int .i64 p.Times, .int .i64 p.Step, .sl 9 (List.map R9 p.Names)] 0)], []⟩ h (fun h=>?_) fun h=>?_
 ·
  refine K1 1 Y<|Tr<|Rq Y (Zc (ov Y) ZbH)<|Rq Y (Zb (ov Y) tS3 Y)<|Za<|Ze<|Zh<|K2 1 6 Y<|Tr<|R2 QQ Y<|Ra Y<|Za<|K3 1 6 7 Y<|Zhh h Y (fun b7 h=>?_) fun b7 h=>?_
  ·
   refine Zd<|K2 1 7 Y<|If h Y (fun h=>?_) fun h=>?_
   ·
    exact Zd<|⟨_, h, ES []⟩
   ·
    refine K0<|Tr<|Ra Y<|Za<|?_
    obtain rfl := rt h
    exact Zk (Zq Y (.one<|rb Y))
  ·
   refine Tr<|R2 QQ Y<|Ra Y<|Za<|K3 1 6 7 Y<|Zhh h Y (fun b7 h=>?_) fun b7 h=>?_
   ·
    refine Zd<|K2 1 7 Y<|If h Y (fun h=>?_) fun h=>?_
    ·
     exact Zd<|⟨_, h, ES []⟩
    ·
     refine K0<|Tr<|Ra Y<|Za<|?_
     obtain rfl := rt h
     exact Zk (Zq Y (.one<|rb Y))
   ·
    refine Tr<|R2 QQ Y<|Ra Y<|Za<|K3 1 6 7 Y<|Zhh h Y (fun b7 h=>?_) fun b7 h=>?_
    ·
     refine Zd<|K2 1 7 Y<|If h Y (fun h=>?_) fun h=>?_
     ·
      exact Zd<|⟨_, h, ES []⟩
     ·
      refine K0<|Tr<|Ra Y<|Za<|?_
      obtain rfl := rt h
      exact Zk (Zq Y (.one<|rb Y))
    ·
     refine Tr<|R2 QQ Y<|Ra Y<|Za<|K3 1 6 7 Y<|Zhh h Y (fun b7 h=>?_) fun b7 h=>?_
     ·
      refine Zd<|K2 1 7 Y<|If h Y (fun h=>?_) fun h=>?_
      ·
       exact Zd<|⟨_, h, ES []⟩
      ·
       refine K0<|Tr<|Ra Y<|Za<|?_
       obtain rfl := rt h
       exact Zk (Zq Y (.one<|rb Y))
     ·
      refine Zs<|R2 QQ Y<|Ra Y<|Za<|K2 1 7 Y<|If h Y (fun h=>?_) fun h=>?_
      ·
       exact Zd<|⟨_, h, ES []⟩
      ·
       refine K0<|Tr<|Ra Y<|Za<|?_
       obtain rfl := rt h
       exact Zk (Zq Y (.one<|rb Y))
 ·
  replace h := elr h
  replace h := t0i h
  refine Zh<|Tr<|Rq Y (Zc (ov Y) Zcl)<|Rq Y (Zb (ov Y) tS3 Y)<|Rq Y (Zc (ov Y) ZbH)<|Rq Y (Zb (ov Y) tS3 Y)<|R2 Zdf Y<|bE h fun y h_y h=>Rq Y (Zp (QI h_y)<|.cons (ov Y) (.b Y)<|.cons (ov Y) (.b Y)<|.cons (ov Y) (.b Y) .nil)<|Rm Y<|Rq Y (.guarded (y == false) Y Y Y Y fun h => Zc (ov Y) J3)<|Rq Y (.guarded (y == false) Y Y Y Y fun h => Zb (ow Y h) tS3 Y)<|bE h fun y2 h_y2 h=>Rq Y (.guarded (y == false) Y Y Y Y fun h => Zp (QI<|gdT h_y2 h)<|.cons (ow Y h) (.b Y)<|.cons (ov Y) (.b Y)<|.cons (ov Y) (.b Y) .nil)<|Rq Y (QZ (ov Y) fun hp=>ow Y<|gF hp)<|Rm Y<|Rq Y (.guarded ((y || y2) == false) Y Y Y Y fun h => Zc (ov Y) Zaa)<|Rq Y (.guarded ((y || y2) == false) Y Y Y Y fun h => Zb (ow Y h) tS3 Y)<|Rq Y (.guarded ((y || y2) == false) Y Y Y Y fun h => ZH (ow Y h)<|ov Y)<|Rq Y (QZ (ov Y) fun hp=>ow Y<|gF hp)<|Rm Y<|Rq Y (.guarded (((y || y2) || (decide (p.Step < 0))) == false) Y Y Y Y fun h => Zc (ov Y) Zaa)<|Rq Y (.guarded (((y || y2) || (decide (p.Step < 0))) == false) Y Y Y Y fun h => Zb (ow Y h) tS3 Y)<|Rq Y (.guarded (((y || y2) || (decide (p.Step < 0))) == false) Y Y Y Y fun h => QQ (ow Y h)<|ov Y)<|Rq Y (.guarded (((y || y2) || (decide (p.Step < 0))) == false) Y Y Y Y fun h => Zc (ov Y) J3)<|Rq Y (.guarded (((y || y2) || (decide (p.Step < 0))) == false) Y Y Y Y fun h => Zb (ow Y h) tS3 Y)<|Rq Y (.guarded (((y || y2) || (decide (p.Step < 0))) == false) Y Y Y Y fun h => QQ (ow Y h)<|ov Y)<|Rq Y (.guarded (((y || y2) || (decide (p.Step < 0))) == false) Y Y Y Y fun h => Zf4 .neq (by simp) (ow Y h) (ow Y h) tB4)<|Rq Y (QZ (ov Y) fun hp=>ow Y<|gF hp)<|Za<|K2 1 37 Y<|If h Y (fun h=>?_) fun h=>?_
  ·
   refine K0<|Tr<|Ra Y<|Za<|?_
   obtain rfl := rt h
   exact Zk (Zq Y (.one<|rb Y))
  ·
   refine Zd<|J0 (fun j => (.inr j)) ⟨[], []⟩ h (fun h=>?_) fun h=>?_
   ·
    refine K1 1 Y<|Tr<|Rq Y (Zc (ov Y) XQ)<|Rq Y (Zb (ov Y) ZcE Y)<|Rl tZ_49 JD Y<|Rm Y<|Za<|Ze<|?_
    obtain ⟨r1, hl1, ho1⟩ := Qu h
    refine L1 (fun i=>⟨[(1, .rp [.str p.Name, .int .i64 p.Kind, .sl 49 (List.map R49 p.Parts), .int .i64 p.First, .int .i64 p.Every, .int .i64 p.Times, .int .i64 p.Step, .sl 9 (List.map R9 p.Names)] 0), (39, .sl 49 (List.map R49 p.Parts)), (40, .int .i64 (p.Parts.length : Int)), (41, .int .i64 i)], []⟩) hl1 (ES []) fun n1 i h=>?_
    unfold Xj at h
    refine Tr<|R2 ZH Y<|Za<|Zh<|If h Y (fun h=>?_) fun h=>?_
    ·
     refine Zd<|Zh<|Ze<|K4 1 39 40 41 Y<|Tr<|bE h fun x h_x h=>Rq Y (Zw (ov Y) (ov Y) JD h_x)<|Rq Y (Zg (ov Y) ZbR Y Y)<|Rx Y (Zr (row := [_, _, _, _]) 0 Y Zgz Y tZ_49)<|Rx Y (Zo (ov Y) (ov Y) (Zl ZbR Y) Y Y Y (Nat.le_of_ble_eq_true Y) (Zf Y) Y)<|Za<|K5 1 4 39 40 41 Y<|Tr<|Rq Y (Zc (ov Y) J3)<|Rq Y (Zb (ov Y) tS3 Y)<|R2 Ji Y<|Rm Y<|Rq Y (.guarded ((decide (1 < p.Times)) == true) Y Y Y Y fun h => Zc (ov Y) Zaa)<|Rq Y (.guarded ((decide (1 < p.Times)) == true) Y Y Y Y fun h => Zb (ow Y h) tS3 Y)<|Rq Y (.guarded ((decide (1 < p.Times)) == true) Y Y Y Y fun h => Ji (ow Y h)<|ov Y)<|Rq Y (XF (ov Y) fun hp=>ow Y<|gT hp)<|Rm Y<|Rq Y (.guarded (((decide (1 < p.Times)) && (decide (57 < p.Step))) == false) Y Y Y Y fun h => Zi (ov Y) Y Y Zfu)<|Rq Y (.guarded (((decide (1 < p.Times)) && (decide (57 < p.Step))) == false) Y Y Y Y fun h => Zj (ow Y h) Y Y Y tS3 Y)<|Rq Y (.guarded (((decide (1 < p.Times)) && (decide (57 < p.Step))) == false) Y Y Y Y fun h => Zc (ov Y) J3)<|Rq Y (.guarded (((decide (1 < p.Times)) && (decide (57 < p.Step))) == false) Y Y Y Y fun h => Zb (ow Y h) tS3 Y)<|Rq Y (.guarded (((decide (1 < p.Times)) && (decide (57 < p.Step))) == false) Y Y Y Y fun h => ZgG (ow Y h) (ov Y) Y)<|Rq Y (.guarded (((decide (1 < p.Times)) && (decide (57 < p.Step))) == false) Y Y Y Y fun h => Zc (ov Y) Zaa)<|Rq Y (.guarded (((decide (1 < p.Times)) && (decide (57 < p.Step))) == false) Y Y Y Y fun h => Zb (ow Y h) tS3 Y)<|Rq Y (.guarded (((decide (1 < p.Times)) && (decide (57 < p.Step))) == false) Y Y Y Y fun h => ZjS (ow Y h) (ow Y h) Y)<|Rq Y (.guarded (((decide (1 < p.Times)) && (decide (57 < p.Step))) == false) Y Y Y Y fun h => ZiH (ow Y h) (ow Y h) Y)<|Rq Y (.guarded (((decide (1 < p.Times)) && (decide (57 < p.Step))) == false) Y Y Y Y fun h => Ji (ow Y h)<|ov Y)<|Rq Y (QZ (ov Y) fun hp=>ow Y<|gF hp)<|Za<|K5 1 39 40 41 64 Y<|If h Y (fun h=>?_) fun h=>?_
     ·
      refine K0<|Tr<|Ra Y<|Za<|?_
      replace h := lx h ▸ ho1
      obtain rfl := rt h
      exact Zk (Zq Y (.one<|rb Y))
     ·
      exact Zd<|K4 1 39 40 41 Y<|Zs<|R2 ZX Y<|Rm Y<|Za<|⟨_, h, ES []⟩
    ·
     refine Zz<|?_
     replace h := lx h ▸ ho1
     exact ⟨_, h, ES []⟩
   ·
    replace h := elr h
    replace h := t0i h
    refine Tr<|Ra Y<|Za<|?_
    obtain rfl := rt h
    exact Zk (Zq Y (.one<|rb Y))
theorem ZeY {p : api_Param} {r : Int} (h : JE p = some r) :
 CSpec Try.prog gl0 50 [.agg [.str p.Name, .int .i64 p.Kind, .sl 49 (List.map R49 p.Parts), .int .i64 p.First, .int .i64 p.Every, .int .i64 p.Times, .int .i64 p.Step, .sl 9 (List.map R9 p.Names)]] (.int .i64 r) := by
 unfold JE at h
 replace h := Qh h
 refine So Try.func50 Y fun w0 A=>Tr<|Rq Y (Z3 (cva<|ov Y) Y tZ_36 Y)<|Ra Y<|Za<|K1 1 Y<|Tr<|Rq Y (Zg (ov Y) Qi Y Y)<|bE h fun y h_y h=>Rq Y (Zp (ZbQ h_y)<|.cons (ov Y) (.aggB Y) .nil)<|Ra Y<|Za<|Zh<|K2 1 3 Y<|Tr<|Rq Y (Zc (ov Y) Jc)<|Rq Y (Zb (ov Y) tS3 Y)<|R2 QQ Y<|Rm Y<|Rq Y (.guarded ((decide (p.Kind = 4)) == true) Y Y Y Y fun h => Zm<|ov Y)<|bE h fun q h_q h=>Rq Y (.guarded ((decide (p.Kind = 4)) == true) Y Y Y Y fun h => Zia (ow Y h) (ov Y)<|gdT h_q h)<|Rq Y (.guarded ((decide (p.Kind = 4)) == true) Y Y Y Y fun h => Qd (ow Y h)<|ov Y)<|Rq Y (XF (ov Y) fun hp=>ow Y<|gT hp)<|Rm Y<|Rq Y (.guarded (((decide (p.Kind = 4)) && (!decide (q = 0))) == false) Y Y Y Y fun h => Zc (ov Y) Jc)<|Rq Y (.guarded (((decide (p.Kind = 4)) && (!decide (q = 0))) == false) Y Y Y Y fun h => Zb (ow Y h) tS3 Y)<|Rq Y (.guarded (((decide (p.Kind = 4)) && (!decide (q = 0))) == false) Y Y Y Y fun h => QQ (ow Y h)<|ov Y)<|Rq Y (.guarded (((decide (p.Kind = 4)) && (!decide (q = 0))) == false) Y Y Y Y fun h => Zm<|ow Y h)<|Rq Y (.guarded2 ((((decide (p.Kind = 4)) && (!decide (q = 0))) == false) && ((decide (p.Kind = 5)) == true)) Y Y Y Y fun h => Zm<|ov Y)<|Rq Y (.guarded2 ((((decide (p.Kind = 4)) && (!decide (q = 0))) == false) && ((decide (p.Kind = 5)) == true)) Y Y Y Y fun h => Qd (ow Y h)<|ov Y)<|Rq Y (.guarded (((decide (p.Kind = 4)) && (!decide (q = 0))) == false) Y Y Y Y fun h => XF (ow Y h) fun hp=>ow Y<|gA h<|gT hp)<|Rq Y (QZ (ov Y) fun hp=>ow Y<|gF hp)<|Rm Y<|Rq Y (.guarded ((((decide (p.Kind = 4)) && (!decide (q = 0))) || ((decide (p.Kind = 5)) && (!decide (y = 1)))) == false) Y Y Y Y fun h => Zc (ov Y) Jc)<|Rq Y (.guarded ((((decide (p.Kind = 4)) && (!decide (q = 0))) || ((decide (p.Kind = 5)) && (!decide (y = 1)))) == false) Y Y Y Y fun h => Zb (ow Y h) tS3 Y)<|Rq Y (.guarded ((((decide (p.Kind = 4)) && (!decide (q = 0))) || ((decide (p.Kind = 5)) && (!decide (y = 1)))) == false) Y Y Y Y fun h => QQ (ow Y h)<|ov Y)<|Rq Y (.guarded ((((decide (p.Kind = 4)) && (!decide (q = 0))) || ((decide (p.Kind = 5)) && (!decide (y = 1)))) == false) Y Y Y Y fun h => Zm<|ow Y h)<|Rq Y (.guarded2 (((((decide (p.Kind = 4)) && (!decide (q = 0))) || ((decide (p.Kind = 5)) && (!decide (y = 1)))) == false) && ((decide (p.Kind = 2)) == false)) Y Y Y Y fun h => Zc (ov Y) Jc)<|Rq Y (.guarded2 (((((decide (p.Kind = 4)) && (!decide (q = 0))) || ((decide (p.Kind = 5)) && (!decide (y = 1)))) == false) && ((decide (p.Kind = 2)) == false)) Y Y Y Y fun h => Zb (ow Y h) tS3 Y)<|Rq Y (.guarded2 (((((decide (p.Kind = 4)) && (!decide (q = 0))) || ((decide (p.Kind = 5)) && (!decide (y = 1)))) == false) && ((decide (p.Kind = 2)) == false)) Y Y Y Y fun h => QQ (ow Y h)<|ov Y)<|Rq Y (.guarded ((((decide (p.Kind = 4)) && (!decide (q = 0))) || ((decide (p.Kind = 5)) && (!decide (y = 1)))) == false) Y Y Y Y fun h => QZ (ow Y h) fun hp=>ow Y<|gA h<|gF hp)<|Rq Y (.guarded ((((decide (p.Kind = 4)) && (!decide (q = 0))) || ((decide (p.Kind = 5)) && (!decide (y = 1)))) == false) Y Y Y Y fun h => Zm<|ow Y h)<|Rq Y (.guarded2 (((((decide (p.Kind = 4)) && (!decide (q = 0))) || ((decide (p.Kind = 5)) && (!decide (y = 1)))) == false) && (((decide (p.Kind = 2)) || (decide (p.Kind = 3))) == true)) Y Y Y Y fun h => Zm<|ov Y)<|Rq Y (.guarded2 (((((decide (p.Kind = 4)) && (!decide (q = 0))) || ((decide (p.Kind = 5)) && (!decide (y = 1)))) == false) && (((decide (p.Kind = 2)) || (decide (p.Kind = 3))) == true)) Y Y Y Y fun h => QQ (ow Y h)<|ov Y)<|Rq Y (.guarded ((((decide (p.Kind = 4)) && (!decide (q = 0))) || ((decide (p.Kind = 5)) && (!decide (y = 1)))) == false) Y Y Y Y fun h => XF (ow Y h) fun hp=>ow Y<|gA h<|gT hp)<|Rq Y (QZ (ov Y) fun hp=>ow Y<|gF hp)<|Za<|K3 1 3 40 Y<|If h Y (fun h=>?_) fun h=>?_
 ·
  refine K0<|Tr<|Ra Y<|Za<|?_
  obtain rfl := rt h
  exact Zk (Zq Y (.one<|rb Y))
 ·
  refine Zd<|Zh<|K2 1 3 Y<|Tr<|Rq Y (Zc (ov Y) Jc)<|Rq Y (Zb (ov Y) tS3 Y)<|R2 Qd Y<|Za<|K3 1 3 43 Y<|If h Y (fun h=>?_) fun h=>?_
  ·
   refine Zh<|K1 1 Y<|Tr<|Rq Y (Zc (ov Y) X3)<|Rq Y (Zb (ov Y) Zc1 Y)<|Rl tZ_9 ZaX Y<|R2 Ji Y<|Za<|K1 47 Y<|If h Y (fun h=>?_) fun h=>?_
   ·
    refine K0<|Tr<|Ra Y<|Za<|?_
    obtain rfl := rt h
    exact Zk (Zq Y (.one<|rb Y))
   ·
    refine Zd<|K0<|Tr<|Ra Y<|Za<|?_
    obtain rfl := rt h
    exact Zk (Zq Y (.one<|rb Y))
  ·
   refine Zd<|Zh<|K2 1 3 Y<|Tr<|Rq Y (Zc (ov Y) X3)<|Rq Y (Zb (ov Y) Zc1 Y)<|Rl tZ_9 ZaX Y<|R2 QQ Y<|Za<|K3 1 3 51 Y<|If h Y (fun h=>?_) fun h=>?_
   ·
    refine K0<|Tr<|Ra Y<|Za<|?_
    obtain rfl := rt h
    exact Zk (Zq Y (.one<|rb Y))
   ·
    refine Zd<|Zh<|K2 1 3 Y<|Td md0<|Dq 0 Y (Zc (ov Y) X3)<|Dq 1 Y (Zb (ov Y) Zc1 Y)<|Dq 2 Y (Zeb (Xk (ov Y) tZ_9) ZaX<|Zbp _ _)<|D2 3 Ji Y<|D1 4 Zm Y<|Dq 5 Y (.guarded ((decide (64 < (p.Names.length : Int))) == false) Y Y Y Y fun h => Zc (ov Y) X3)<|Dq 6 Y (.guarded ((decide (64 < (p.Names.length : Int))) == false) Y Y Y Y fun h => Zb (ow Y h) Zc1 Y)<|Dq 7 Y (.guarded ((decide (64 < (p.Names.length : Int))) == false) Y Y Y Y fun h => Zeb (Xk (ow Y h) tZ_9) ZaX<|Zbp _ _)<|Dq 8 Y (.guarded ((decide (64 < (p.Names.length : Int))) == false) Y Y Y Y fun h => Zm<|ov Y)<|bE h fun q2 h_q2 h=>Dq 9 Y (.guarded ((decide (64 < (p.Names.length : Int))) == false) Y Y Y Y fun h => ZdD (ov Y) (ow Y h)<|gdT h_q2 h)<|Dq 10 Y (.guarded ((decide (64 < (p.Names.length : Int))) == false) Y Y Y Y fun h => Ji (ow Y h)<|ow Y h)<|Dq 11 Y (QZ (ov Y) fun hp=>ow Y<|gF hp)<|Dd<|K2 1 63 Y<|If h Y (fun h=>?_) fun h=>?_
    ·
     refine K0<|Tr<|Ra Y<|Za<|?_
     obtain rfl := rt h
     exact Zk (Zq Y (.one<|rb Y))
    ·
     refine Zd<|J0 (fun j => (.inr j)) ⟨[], []⟩ h (fun h=>?_) fun h=>?_
     ·
      refine K1 1 Y<|Tr<|Rq Y (Zc (ov Y) X3)<|Rq Y (Zb (ov Y) Zc1 Y)<|Rl tZ_9 ZaX Y<|Rm Y<|Za<|Ze<|?_
      obtain ⟨r1, hl1, ho1⟩ := Qu h
      refine L1 (fun i=>⟨[(1, .rp [.str p.Name, .int .i64 p.Kind, .sl 49 (List.map R49 p.Parts), .int .i64 p.First, .int .i64 p.Every, .int .i64 p.Times, .int .i64 p.Step, .sl 9 (List.map R9 p.Names)] 0), (65, .sl 9 (List.map R9 p.Names)), (66, .int .i64 (p.Names.length : Int)), (67, .int .i64 i)], []⟩) hl1 (ES []) fun n1 i h=>?_
      unfold XD at h
      refine Tr<|R2 ZH Y<|Za<|Zh<|If h Y (fun h=>?_) fun h=>?_
      ·
       refine Zd<|J0 (fun j => (.inr j)) ⟨[(1, .rp [.str p.Name, .int .i64 p.Kind, .sl 49 (List.map R49 p.Parts), .int .i64 p.First, .int .i64 p.Every, .int .i64 p.Times, .int .i64 p.Step, .sl 9 (List.map R9 p.Names)] 0), (65, .sl 9 (List.map R9 p.Names)), (66, .int .i64 (p.Names.length : Int)), (67, .int .i64 i)], []⟩ h (fun h=>?_) fun h=>?_
       ·
        refine Ze<|K4 1 65 66 67 Y<|Tr<|Rm Y<|bE h fun x h_x h=>Rq Y (Zw (ov Y) (ov Y) ZaX h_x)<|Rq Y (Zb (ov Y) tS9 Y)<|Ra Y<|Ra Y<|Za<|Zh<|K6 1 4 5 65 66 67 Y<|Tr<|Rm Y<|bE h fun y2 h_y2 h=>Rq Y (Zp (ZdF h_y2)<|.cons (ov Y) (.b Y) .nil)<|R1 Xb Y<|Za<|K7 1 4 5 65 66 67 74 Y<|If h Y (fun h=>?_) fun h=>?_
        ·
         refine K0<|Tr<|Ra Y<|Za<|?_
         replace h := lx h ▸ ho1
         obtain rfl := rt h
         exact Zk (Zq Y (.one<|rb Y))
        ·
         refine Zd<|K6 1 4 5 65 66 67 Y<|Tr<|Rq Y (Zc (ov Y) X3)<|Rq Y (Zb (ov Y) Zc1 Y)<|Rm Y<|bE h fun l h_l h=>Rq Y (ZeG (ov Y) ZaX on (oi<|ov Y) h_l)<|Rl tZ_9 ZaX Y<|Rm Y<|Za<|Ze<|?_
         obtain ⟨r2, hl2, ho2⟩ := Qu h
         refine L1 (fun i2=>⟨[(1, .rp [.str p.Name, .int .i64 p.Kind, .sl 49 (List.map R49 p.Parts), .int .i64 p.First, .int .i64 p.Every, .int .i64 p.Times, .int .i64 p.Step, .sl 9 (List.map R9 p.Names)] 0), (5, .str x), (65, .sl 9 (List.map R9 p.Names)), (66, .int .i64 (p.Names.length : Int)), (67, .int .i64 i), (78, .sl 9 (List.map R9 l)), (79, .int .i64 (l.length : Int)), (80, .int .i64 i2)], []⟩) hl2 (ES []) fun n2 i2 h=>?_
         unfold XG at h
         refine Tr<|R2 ZH Y<|Za<|Zh<|If h Y (fun h=>?_) fun h=>?_
         ·
          refine Zd<|Zh<|Ze<|K8 1 5 65 66 67 78 79 80 Y<|Tr<|bE h fun x2 h_x2 h=>Rq Y (Zw (ov Y) (ov Y) ZaX h_x2)<|Rq Y (Zb (ov Y) tS9 Y)<|Ra Y<|Za<|K9 1 5 7 65 66 67 78 79 80 Y<|Tr<|Rm Y<|Rm Y<|R2 Zb5 Y<|Za<|K9 1 5 65 66 67 78 79 80 86 Y<|If h Y (fun h=>?_) fun h=>?_
          ·
           refine K0<|Tr<|Ra Y<|Za<|?_
           replace h := lx h ▸ ho2
           replace h := lx h ▸ ho1
           obtain rfl := rt h
           exact Zk (Zq Y (.one<|rb Y))
          ·
           exact Zd<|K8 1 5 65 66 67 78 79 80 Y<|Zs<|R2 ZX Y<|Rm Y<|Za<|⟨_, h, ES []⟩
         ·
          refine Zz<|?_
          replace h := lx h ▸ ho2
          exact ⟨_, h, ES []⟩
       ·
        replace h := elr h
        replace h := t0i h
        exact Zs<|R2 ZX Y<|Rm Y<|Za<|⟨_, h, ES []⟩
      ·
       refine Zz<|?_
       replace h := lx h ▸ ho1
       exact ⟨_, h, ES []⟩
     ·
      replace h := elr h
      replace h := t0i h
      refine Tr<|Ra Y<|Za<|?_
      obtain rfl := rt h
      exact Zk (Zq Y (.one<|rb Y))
theorem Zcq {p : api_Param} {number : Int} {r : (List api_Cell)} (h : Zau p number = some r) :
 CSpec Try.prog gl0 31 [.agg [.str p.Name, .int .i64 p.Kind, .sl 49 (List.map R49 p.Parts), .int .i64 p.First, .int .i64 p.Every, .int .i64 p.Times, .int .i64 p.Step, .sl 9 (List.map R9 p.Names)], .int .i64 number] (.sl 71 (List.map R71 r)) := by
 unfold Zau at h
 replace h := Qh h
 refine So Try.func31 Y fun w0 A=>Tr<|Rq Y (Z3 (cva<|ov Y) Y tZ_36 Y)<|Ra Y<|Za<|K2 1 2 Y<|Tr<|Ra Y<|Za<|I1 (fun out=>⟨[(5, .own 0 out.length)], [some ⟨71, List.map R71 out⟩]⟩) h (fun h=>?_) fun out h=>?_
 ·
  refine Tr<|Rq Y (Zc (ov Y) Zcl)<|Rq Y (Zb (ov Y) tS3 Y)<|Ra Y<|Za<|Ze<|?_
  obtain ⟨r1, hl1, ho1⟩ := Qu h
  refine L2 (fun out2 f=>⟨[(1, .int .i64 number), (2, .rp [.str p.Name, .int .i64 p.Kind, .sl 49 (List.map R49 p.Parts), .int .i64 p.First, .int .i64 p.Every, .int .i64 p.Times, .int .i64 p.Step, .sl 9 (List.map R9 p.Names)] 0), (5, .own 0 out2.length), (6, .int .i64 f)], [some ⟨71, List.map R71 out2⟩]⟩) hl1 (ES [none]) fun n1 out2 f h=>?_
  unfold Xd at h
  refine Zh<|Tr<|Rm Y<|R2 ZH Y<|Za<|K5 1 2 5 6 17 Y<|If h Y (fun h=>?_) fun h=>?_
  ·
   refine Zd<|I1 (fun out3=>⟨[(1, .int .i64 number), (2, .rp [.str p.Name, .int .i64 p.Kind, .sl 49 (List.map R49 p.Parts), .int .i64 p.First, .int .i64 p.Every, .int .i64 p.Times, .int .i64 p.Step, .sl 9 (List.map R9 p.Names)] 0), (5, .own 0 out3.length), (6, .int .i64 f)], [some ⟨71, List.map R71 out3⟩]⟩) h (fun h=>?_) fun out3 h=>?_
   ·
    refine Ze<|K4 1 2 5 6 Y<|Tr<|Ra Y<|Za<|I1 (fun Js=>⟨[(1, .int .i64 number), (2, .rp [.str p.Name, .int .i64 p.Kind, .sl 49 (List.map R49 p.Parts), .int .i64 p.First, .int .i64 p.Every, .int .i64 p.Times, .int .i64 p.Step, .sl 9 (List.map R9 p.Names)] 0), (5, .own 0 out2.length), (6, .int .i64 f), (7, .bool Js)], [some ⟨71, List.map R71 out2⟩]⟩) h (fun h=>?_) fun Js h=>?_
    ·
     refine Tr<|Rq Y (Zc (ov Y) XQ)<|Rq Y (Zb (ov Y) ZcE Y)<|Rl tZ_49 JD Y<|Rm Y<|Za<|Ze<|?_
     obtain ⟨r2, hl2, ho2⟩ := Qu h
     refine L2 (fun inside2 i=>⟨[(1, .int .i64 number), (2, .rp [.str p.Name, .int .i64 p.Kind, .sl 49 (List.map R49 p.Parts), .int .i64 p.First, .int .i64 p.Every, .int .i64 p.Times, .int .i64 p.Step, .sl 9 (List.map R9 p.Names)] 0), (5, .own 0 out2.length), (6, .int .i64 f), (7, .bool inside2), (23, .sl 49 (List.map R49 p.Parts)), (24, .int .i64 (p.Parts.length : Int)), (25, .int .i64 i)], [some ⟨71, List.map R71 out2⟩]⟩) hl2 (ES [some 0]) fun n2 inside2 i h=>?_
     unfold Jo at h
     refine Tr<|R2 ZH Y<|Za<|Zh<|If h Y (fun h=>?_) fun h=>?_
     ·
      exact Zd<|Zh<|Ze<|K8 1 2 5 6 7 23 24 25 Y<|Tr<|bE h fun x h_x h=>Rq Y (Zw (ov Y) (ov Y) JD h_x)<|Rq Y (Zg (ov Y) ZbR Y Y)<|Rx Y (Zr (row := [_, _, _, _]) 1 Y Zgz Y tZ_49)<|Rx Y (Zo (ov Y) (ov Y) (Zl ZbR Y) Y Y Y (Nat.le_of_ble_eq_true Y) (Zf Y) Y)<|Za<|K9 1 2 5 6 7 9 23 24 25 Y<|Zs<|Rm Y<|Rm Y<|Rq Y (.guarded (inside2 == true) Y Y Y Y fun h => Zm<|ov Y)<|Rq Y (.guarded (inside2 == true) Y Y Y Y fun h => Zi (ov Y) Y Y Zfq)<|Rq Y (.guarded (inside2 == true) Y Y Y Y fun h => Zj (ow Y h) Y Y Y tS3 Y)<|Rq Y (.guarded (inside2 == true) Y Y Y Y fun h => ZiH (ow Y h) (ow Y h) Y)<|Rq Y (.guarded (inside2 == true) Y Y Y Y fun h => ZH (ow Y h)<|ov Y)<|Rq Y (XF (ov Y) fun hp=>ow Y<|gT hp)<|Ra Y<|Za<|K8 1 2 5 6 7 23 24 25 Y<|Zs<|R2 ZX Y<|Rm Y<|Za<|⟨_, h, ES [some 0]⟩
     ·
      refine Zz<|?_
      replace h := lx h ▸ ho2
      exact ⟨_, h, ES [some 0]⟩
    ·
     refine Tr<|Ra Y<|Za<|Ze<|?_
     obtain ⟨r3, hl3, ho3⟩ := Qu h
     refine L2 (fun out4 j=>⟨[(1, .int .i64 number), (2, .rp [.str p.Name, .int .i64 p.Kind, .sl 49 (List.map R49 p.Parts), .int .i64 p.First, .int .i64 p.Every, .int .i64 p.Times, .int .i64 p.Step, .sl 9 (List.map R9 p.Names)] 0), (5, .own 0 out4.length), (6, .int .i64 f), (7, .bool Js), (10, .int .i64 j)], [some ⟨71, List.map R71 out4⟩]⟩) hl3 (ES [some 0]) fun n3 out4 j h=>?_
     unfold Jm at h
     refine Zh<|Tr<|Rm Y<|Rq Y (Zc (ov Y) J3)<|Rq Y (Zb (ov Y) tS3 Y)<|R2 ZH Y<|Rm Y<|Rq Y (.guarded ((decide (j < p.Times)) == true) Y Y Y Y fun h => Zm<|ov Y)<|Rq Y (XF (ov Y) fun hp=>ow Y<|gT hp)<|Za<|K7 1 2 5 6 7 10 44 Y<|If h Y (fun h=>?_) fun h=>?_
     ·
      refine Zd<|Zh<|Ze<|K6 1 2 5 6 7 10 Y<|Tr<|Rm Y<|Rm Y<|Rq Y (ZjI (ov Y) Y Y Zcm)<|Rm Y<|Rq Y (Q3 (ys := [_, _, _, _]) Zk1 Zk6 Zhe (.cons (cvs (ov Y)<|Zn Y)<|.cons (cvs (ov Y)<|Zn Y)<|.cons (cvs (ov Y)<|Zn Y) .nil) Y)<|Rx Y (Zr (row := [_, _, _, _]) 1 Y Zhe Y tZ_71)<|Rx Y (Zo (ov Y) (ov Y) (Zl Zeh Y) Y Y Y (Nat.le_of_ble_eq_true Y) (Zf Y) Y)<|Za<|I1 (fun Places=>⟨[(1, .int .i64 number), (2, .rp [.str p.Name, .int .i64 p.Kind, .sl 49 (List.map R49 p.Parts), .int .i64 p.First, .int .i64 p.Every, .int .i64 p.Times, .int .i64 p.Step, .sl 9 (List.map R9 p.Names)] 0), (5, .own 0 out4.length), (6, .int .i64 f), (7, .bool Js), (10, .int .i64 j), (11, .ptr 1 1 0 0)], [some ⟨71, List.map R71 out4⟩, some ⟨71, [[.int .i64 number, .int .i64 (out4.length : Int), .int .i64 f, .own 2 Places.length]]⟩, some ⟨83, List.map R83 Places⟩]⟩) h (fun h=>?_) fun Places h=>?_
      ·
       refine K7 1 2 5 6 7 10 11 Y<|Tr<|Rq Y (Zc (ov Y) XQ)<|Rq Y (Zb (ov Y) ZcE Y)<|Rl tZ_49 JD Y<|Rm Y<|Za<|Ze<|?_
       obtain ⟨r4, hl4, ho4⟩ := Qu h
       refine L2 (fun Places2 i2=>⟨[(1, .int .i64 number), (2, .rp [.str p.Name, .int .i64 p.Kind, .sl 49 (List.map R49 p.Parts), .int .i64 p.First, .int .i64 p.Every, .int .i64 p.Times, .int .i64 p.Step, .sl 9 (List.map R9 p.Names)] 0), (5, .own 0 out4.length), (6, .int .i64 f), (7, .bool Js), (10, .int .i64 j), (11, .ptr 1 1 0 0), (53, .sl 49 (List.map R49 p.Parts)), (54, .int .i64 (p.Parts.length : Int)), (55, .int .i64 i2)], [some ⟨71, List.map R71 out4⟩, some ⟨71, [[.int .i64 number, .int .i64 (out4.length : Int), .int .i64 f, .own 2 Places2.length]]⟩, some ⟨83, List.map R83 Places2⟩]⟩) hl4 (ES [some 0, some 1, none]) fun n4 Places2 i2 h=>?_
       unfold Zbr at h
       refine Tr<|R2 ZH Y<|Za<|Zh<|If h Y (fun h=>?_) fun h=>?_
       ·
        exact Zd<|Zh<|Ze<|K10 1 2 5 6 7 10 11 53 54 55 Y<|Tr<|bE h fun x2 h_x2 h=>Rq Y (Zw (ov Y) (ov Y) JD h_x2)<|Rq Y (Zg (ov Y) ZbR Y Y)<|Rx Y (Zr (row := [_, _, _, _]) 3 Y Zgz Y tZ_49)<|Rx Y (Zo (ov Y) (ov Y) (Zl ZbR Y) Y Y Y (Nat.le_of_ble_eq_true Y) (Zf Y) Y)<|Za<|K11 1 2 5 6 7 10 11 13 53 54 55 Y<|Zs<|Rq Y (Zi (ov Y) Y Y Zc6)<|Rq Y (Zj (ov Y) Y Y Y Zg2 Y)<|Rm Y<|Rq Y (Zi (ov Y) Y Y Zfq)<|Rq Y (Zj (ov Y) Y Y Y tS3 Y)<|R2 ZX Y<|Rq Y (Zi (ov Y) Y Y Zfu)<|Rq Y (Zj (ov Y) Y Y Y tS3 Y)<|Rm Y<|Rq Y (Zc (ov Y) Zaa)<|Rq Y (Zb (ov Y) tS3 Y)<|R2 ZhN Y<|R2 ZX Y<|Rq Y (Zi (ov Y) Y Y Zfw)<|Rq Y (Zj (ov Y) Y Y Y tS3 Y)<|Rq Y (Zi (ov Y) Y Y Zfn)<|Rq Y (Zj (ov Y) Y Y Y tS3 Y)<|Rq Y (Q3 (ys := [_, _, _, _]) Zk5 Zk3 Zig (.cons (cvs (ov Y)<|Zn Y)<|.cons (cvs (ov Y)<|Zn Y)<|.cons (cvs (ov Y)<|Zn Y)<|.cons (cvs (ov Y)<|Zn Y) .nil) Y)<|R_q (.sl 83<|List.map R83 ([(api_Place.mk (i64 (f + x2.Frame)) (i64 (x2.Word + (i64 (j * p.Step)))) x2.Low x2.Bits)] : List api_Place)) Y (Za6 ZfL (.cons (cva<|ov Y) Y (pwD Y) .nil) Y Y)<|bE h fun l h_l h=>Rx Y (Xg (ov Y) (Xk (ov Y) tZ_83) ZfL Y Y Y (fun _=>Zf Y) Y h_l)<|Rq Y (Zi (ov Y) Y Y Zc6)<|Rx Y (Zo (ov Y) (ov Y) (QR Zg2) Y Y Y (Nat.le_of_ble_eq_true Y) (Zf Y) Y)<|Za<|K10 1 2 5 6 7 10 11 53 54 55 Y<|Zs<|R2 ZX Y<|Rm Y<|Za<|⟨_, h, ES [some 0, some 1, some 2]⟩
       ·
        refine Zz<|?_
        replace h := lx h ▸ ho4
        exact ⟨_, h, ES [some 0, some 1, some 2]⟩
      ·
       exact Zs<|Rm Y<|Rq Y (Z0 (ov Y) Y Y Y Zeh Y Y)<|Zec (Ent.sel [some 0, some 1, none] (sd 1 Y Y<|sd 2 Y Y<|sr 5 Y (.own (r' := 0) _ Y)<|sd 6 Y Y<|sd 7 Y Y<|sd 10 Y Y<|sr 11 Y (.ptr (r' := 1) _ _ _ Y)<|sr 81 Y (.own (r' := 0) _ Y)<|sr 82 Y (XL<|rlc (.dat Y)<|rlc (.dat Y)<|rlc (.dat Y)<|rlc (ZkR Y Y Y D83) rln) sn) (.cons Y (roM D71)<|.cons Y (ro1 (by exact tZ_71.symm)<|rlc (.dat Y)<|rlc (.dat Y)<|rlc (.dat Y)<|rlc (ZkR Y Y Y D83) rln)<|.row 83 .nil) Y Y)<|R_q (.sl 71<|List.map R71 ([(api_Cell.mk number (out4.length : Int) f Places)] : List api_Cell)) Y (Za6 Zcm (.cons (cva<|ov Y) Y (pwD Y) .nil) Y Y)<|bE h fun l2 h_l2 h=>Rx Y (Xg (ov Y) (Xk (ov Y) tZ_71) Zcm Y Y Y (fun _=>Zf Y) Y h_l2)<|Ra Y<|Za<|K6 1 2 5 6 7 10 Y<|Zs<|Rm Y<|R2 ZX Y<|Ra Y<|Za<|⟨_, h, ES [some 0]⟩
     ·
      refine Zz<|?_
      replace h := lx h ▸ ho3
      exact ⟨_, h, ES [some 0]⟩
   ·
    exact Zs<|Rm Y<|Rq Y (Zc (ov Y) ZbH)<|Rq Y (Zb (ov Y) tS3 Y)<|R2 ZX Y<|Ra Y<|Za<|⟨_, h, ES [some 0]⟩
  ·
   refine Zz<|?_
   replace h := lx h ▸ ho1
   exact ⟨_, h, ES [some 0]⟩
 ·
  refine Tr<|Rm Y<|Ra Y<|Za<|?_
  obtain rfl := rt h
  exact Zk (Zq Y (.one<|.tmp Y<|View.ownM Y Y D71))
theorem Zel {t : List ((Vector Int 3) × Bool)} {l : List api_Place} {r : Bool × (List ((Vector Int 3) × Bool))} (h : Jh t l = some r) :
 GSpec Try.prog gl0 51 [.mref 0 1, .sl 83 (List.map R83 l)] [some ⟨75, [[.mcon (List.map (QP Q7 FV4) t)]]⟩] (.bool r.1) [some ⟨75, [[.mcon (List.map (QP Q7 FV4) r.2)]]⟩] := by
 unfold Jh at h
 replace h := Qh h
 refine Ze4 (by kernel_rfl) Try.func51 Y Y<|?_
 intro w0 A W φ0
 refine Tr<|Ra Y<|Za<|K2 0 1 Y<|Tr<|Ra Y<|Za<|I2 (fun o ok=>⟨[(5, .bool ok)], [some ⟨75, [[.mcon (List.map (QP Q7 FV4) o)]]⟩]⟩) h (fun h=>?_) fun o ok h=>?_
 ·
  refine Tr<|Rm Y<|Rl tZ_83 ZfL Y<|Rm Y<|Za<|Ze<|?_
  obtain ⟨r1, hl1, ho1⟩ := Qu h
  refine L3 (fun o2 ok2 i=>⟨[(0, .mref 0 1), (5, .bool ok2), (10, .sl 83 (List.map R83 l)), (11, .int .i64 (l.length : Int)), (12, .int .i64 i)], [some ⟨75, [[.mcon (List.map (QP Q7 FV4) o2)]]⟩]⟩) hl1 (ES [some 0] (hhp := .cons Y (QB (fk := Q7) (fv := FV4) (m := t) tZ_75 (fun _=>XL<|rld<|arD fun _ => Y) fun _=>.ren<|.dat Y) .nil)) fun n1 o2 ok2 i h=>?_
  unfold QS at h
  refine Tr<|R2 ZH Y<|Za<|Zh<|If h Y (fun h=>?_) fun h=>?_
  ·
   refine Zd<|I2 (fun o3 ok3=>⟨[(0, .mref 0 1), (5, .bool ok3), (10, .sl 83 (List.map R83 l)), (11, .int .i64 (l.length : Int)), (12, .int .i64 i)], [some ⟨75, [[.mcon (List.map (QP Q7 FV4) o3)]]⟩]⟩) h (fun h=>?_) fun o3 ok3 h=>?_
   ·
    refine Ze<|K5 0 5 10 11 12 Y<|Tr<|bE h fun x h_x h=>Rq Y (Zw (ov Y) (ov Y) ZfL h_x)<|Rq Y (Zg (ov Y) Zgv Y Y)<|Rx Y (Zr (row := [_, _, _, _]) 1 Y Zig Y tZ_83)<|Rx Y (Zo (ov Y) (ov Y) (Zl Zgv Y) Y Y Y (Nat.le_of_ble_eq_true Y) (Zf Y) Y)<|Za<|K6 0 5 7 10 11 12 Y<|Tr<|Rq Y (Zi (ov Y) Y Y Zgr)<|Rq Y (Zj (ov Y) Y Y Y tS3 Y)<|Ra Y<|Za<|Ze<|?_
    obtain ⟨r2, hl2, ho2⟩ := Qu h
    refine L3 (fun o4 ok4 b=>⟨[(0, .mref 0 1), (5, .bool ok4), (7, .ptr 1 1 0 0), (8, .int .i64 b), (10, .sl 83 (List.map R83 l)), (11, .int .i64 (l.length : Int)), (12, .int .i64 i)], [some ⟨75, [[.mcon (List.map (QP Q7 FV4) o4)]]⟩, some ⟨83, [[.int .i64 x.Frame, .int .i64 x.Word, .int .i64 x.Low, .int .i64 x.Bits]]⟩]⟩) hl2 (ES [some 0, some 1] (hhp := .cons Y (QB (fk := Q7) (fv := FV4) (m := o2) tZ_75 (fun _=>XL<|rld<|arD fun _ => Y) fun _=>.ren<|.dat Y)<|.cons Y (ro1 (by exact tZ_83.symm)<|rld Y) .nil)) fun n2 o4 ok4 b h=>?_
    unfold QT at h
    refine Zh<|Tr<|Rm Y<|Rq Y (Zi (ov Y) Y Y Zgr)<|Rq Y (Zj (ov Y) Y Y Y tS3 Y)<|Rq Y (Zi (ov Y) Y Y Zfm)<|Rq Y (Zj (ov Y) Y Y Y tS3 Y)<|R2 ZX Y<|R2 ZH Y<|Za<|K8 0 5 7 8 10 11 12 24 Y<|If h Y (fun h=>?_) fun h=>?_
    ·
     exact Zd<|Zh<|Ze<|K7 0 5 7 8 10 11 12 Y<|Tr<|Rq Y (Zi (ov Y) Y Y Zhc)<|Rq Y (Zj (ov Y) Y Y Y tS3 Y)<|Rq Y (Zi (ov Y) Y Y Zhl)<|Rq Y (Zj (ov Y) Y Y Y tS3 Y)<|Rm Y<|R_q (.agg<|List.map C3 (#v[x.Frame, x.Word, b] : Vector Int 3).toList) Y (ZjJ (ys := [_, _, _]) ZlK ZkT (.cons (cvs (ov Y)<|Zn Y)<|.cons (cvs (ov Y)<|Zn Y)<|.cons (cvs (ov Y)<|Zn Y) .nil) Y)<|Rx Y (Zr (row := (List.map C3 (Vector.replicate 3 0).toList)) 2 Y ZkT Y tZ_108)<|Rx Y (Zo (ov Y) (ov Y) (Zl ZjL arL) Y Y Y (Zii (X1 arL) arL) (Zf<|arC fun _ => Y)<|Zhq<|Eq.trans arL<|Eq.symm arL)<|Za<|K8 0 5 7 8 9 10 11 12 Y<|Tr<|Rm Y<|Rm Y<|Rq Y (.guarded (ok4 == true) Y Y Y Y fun h => Zm<|ov Y)<|Rq Y (.guarded (ok4 == true) Y Y Y Y fun h => Z0 (ov Y) Y Y Y ZjL (Zep<|X1 arL) arL (hns := (nsM fun _ => Y)))<|bE h fun o5 h_o5 h=>Rq Y (.guarded (ok4 == true) Y Y Y Y fun h => Zgw (m := o4) (fk := Q7) (fv := FV4) (k := (#v[x.Frame, x.Word, b] : Vector Int 3)) (z0 := false) (ow Y h) (ow Y h) Ziz Zka Y (fun _=>.aggB<|arD fun _ => Y) (ZaB Zmf Y) (fun _ _=>Y)<|gdT h_o5 h)<|Rq Y (.guarded (ok4 == true) Y Y Y Y fun h => Xb<|ow Y h)<|Rq Y (XF (ov Y) fun hp=>ow Y<|gT hp)<|Ra Y<|Za<|K8 0 5 7 8 9 10 11 12 Y<|Zs<|Rm Y<|Rq Y (Z0 (ov Y) Y Y Y ZjL (Zep<|X1 arL) arL (hns := (nsM fun _ => Y)))<|Rx Y (Zgp (m := o4) (fk := Q7) (fv := FV4) (k := (#v[x.Frame, x.Word, b] : Vector Int 3)) (v := true) (ov Y) (ov Y) (ov Y) Ziz Zka Y fun _=>.aggB<|arD fun _ => Y)<|Za<|K7 0 5 7 8 10 11 12 Y<|Zs<|Rm Y<|R2 ZX Y<|Ra Y<|Za<|⟨_, h, ES [some 0, some 1] (hhp := .cons Y (QB (fk := Q7) (fv := FV4) (m := (Zd1 kqV o4 (#v[x.Frame, x.Word, b] : Vector Int 3) true)) tZ_75 (fun _=>XL<|rld<|arD fun _ => Y) fun _=>.ren<|.dat Y)<|.cons Y (ro1 (by exact tZ_83.symm)<|rld Y) .nil)⟩
    ·
     refine Zz<|?_
     replace h := lx h ▸ ho2
     exact ⟨_, h, ES [some 0] (hhp := .cons Y (QB (fk := Q7) (fv := FV4) (m := o4) tZ_75 (fun _=>XL<|rld<|arD fun _ => Y) fun _=>.ren<|.dat Y) .nil)⟩
   ·
    exact Zs<|R2 ZX Y<|Rm Y<|Za<|⟨_, h, ES [some 0] (hhp := .cons Y (QB (fk := Q7) (fv := FV4) (m := o3) tZ_75 (fun _=>XL<|rld<|arD fun _ => Y) fun _=>.ren<|.dat Y) .nil)⟩
  ·
   refine Zz<|?_
   replace h := lx h ▸ ho1
   exact ⟨_, h, ES [some 0] (hhp := .cons Y (QB (fk := Q7) (fv := FV4) (m := o2) tZ_75 (fun _=>XL<|rld<|arD fun _ => Y) fun _=>.ren<|.dat Y) .nil)⟩
 ·
  refine Tr<|Rm Y<|Ra Y<|Za<|?_
  obtain rfl := rt h
  exact Zk<|Zkq [some 0] Y (.cons (.tmp Y) .nil) (.cons Y (QB (fk := Q7) (fv := FV4) (m := o) tZ_75 (fun _=>XL<|rld<|arD fun _ => Y) fun _=>.ren<|.dat Y) .nil) Y Y<|.dat Y
theorem Za7 {t : List ((Vector Int 3) × Bool)} {l : List api_Cell} {r : Bool × (List ((Vector Int 3) × Bool))} (h : QV t l = some r) :
 GSpec Try.prog gl0 32 [.mref 0 1, .sl 71 (List.map R71 l)] [some ⟨75, [[.mcon (List.map (QP Q7 FV4) t)]]⟩] (.bool r.1) [some ⟨75, [[.mcon (List.map (QP Q7 FV4) r.2)]]⟩] := by
 unfold QV at h
 replace h := Qh h
 refine Ze4 (by kernel_rfl) Try.func32 Y Y<|?_
 intro w0 A W φ0
 refine Tr<|Ra Y<|Za<|K2 0 1 Y<|Tr<|Ra Y<|Za<|I2 (fun o ok=>⟨[(5, .bool ok)], [some ⟨75, [[.mcon (List.map (QP Q7 FV4) o)]]⟩]⟩) h (fun h=>?_) fun o ok h=>?_
 ·
  refine Tr<|Rm Y<|Rl tZ_71 Zcm Y<|Rm Y<|Za<|Ze<|?_
  obtain ⟨r1, hl1, ho1⟩ := Qu h
  refine L3 (fun o2 ok2 i=>⟨[(0, .mref 0 1), (5, .bool ok2), (8, .sl 71 (List.map R71 l)), (9, .int .i64 (l.length : Int)), (10, .int .i64 i)], [some ⟨75, [[.mcon (List.map (QP Q7 FV4) o2)]]⟩]⟩) hl1 (ES [some 0] (hhp := .cons Y (QB (fk := Q7) (fv := FV4) (m := t) tZ_75 (fun _=>XL<|rld<|arD fun _ => Y) fun _=>.ren<|.dat Y) .nil)) fun n1 o2 ok2 i h=>?_
  unfold Qo at h
  refine Tr<|R2 ZH Y<|Za<|Zh<|If h Y (fun h=>?_) fun h=>?_
  ·
   refine Zd<|Zh<|Ze<|K5 0 5 8 9 10 Y<|Tr<|bE h fun x h_x h=>Rq Y (Zw (ov Y) (ov Y) Zcm h_x)<|Rq Y (Zg (ov Y) Zeh Y Y)<|Rx Y (Zr (row := [_, _, _, _]) 1 Y Zhe Y tZ_71)<|Rx Y (Zo (ov Y) (ov Y) (Zl Zeh Y) Y Y Y (Nat.le_of_ble_eq_true Y) (Zf Y) Y)<|Za<|K6 0 5 7 8 9 10 Y<|Tr<|Rm Y<|Rq Y (Zi (ov Y) Y Y Zc6)<|Rq Y (Zj (ov Y) Y Y Y Zg2 Y)<|bE h fun y h_y h=>Rx Y (Zff [0] (Zel h_y) (.cons (ov Y) (.mref _ Y)<|.cons (ov Y) (.dat Y) .nil) (.cons Y (QB (fk := Q7) (fv := FV4) (m := o2) tZ_75 (fun _=>XL<|rld<|arD fun _ => Y) fun _=>.ren<|.dat Y) .nil) Y (.lent 0 (.inl Y) Y (QB (fk := Q7) (fv := FV4) (m := y.2) tZ_75 (fun _=>XL<|rld<|arD fun _ => Y) fun _=>.ren<|.dat Y)<|.keep Y Y .nil) Y Y<|.dat Y)<|R1 Xb Y<|Za<|K6 0 5 8 9 10 18 Y<|If h Y (fun h=>?_) fun h=>?_
   ·
    exact K5 0 5 8 9 10 Y<|Zs<|Ra Y<|Za<|Zs<|R2 ZX Y<|Rm Y<|Za<|⟨_, h, ES [some 0] (hhp := .cons Y (QB (fk := Q7) (fv := FV4) (m := y.2) tZ_75 (fun _=>XL<|rld<|arD fun _ => Y) fun _=>.ren<|.dat Y) .nil)⟩
   ·
    exact Zd<|K5 0 5 8 9 10 Y<|Zs<|R2 ZX Y<|Rm Y<|Za<|⟨_, h, ES [some 0] (hhp := .cons Y (QB (fk := Q7) (fv := FV4) (m := y.2) tZ_75 (fun _=>XL<|rld<|arD fun _ => Y) fun _=>.ren<|.dat Y) .nil)⟩
  ·
   refine Zz<|?_
   replace h := lx h ▸ ho1
   exact ⟨_, h, ES [some 0] (hhp := .cons Y (QB (fk := Q7) (fv := FV4) (m := o2) tZ_75 (fun _=>XL<|rld<|arD fun _ => Y) fun _=>.ren<|.dat Y) .nil)⟩
 ·
  refine Tr<|Rm Y<|Ra Y<|Za<|?_
  obtain rfl := rt h
  exact Zk<|Zkq [some 0] Y (.cons (.tmp Y) .nil) (.cons Y (QB (fk := Q7) (fv := FV4) (m := o) tZ_75 (fun _=>XL<|rld<|arD fun _ => Y) fun _=>.ren<|.dat Y) .nil) Y Y<|.dat Y
theorem Zev {p : api_Param} {r : Int} (h : Jk p = some r) :
 CSpec Try.prog gl0 30 [.agg [.str p.Name, .int .i64 p.Kind, .sl 49 (List.map R49 p.Parts), .int .i64 p.First, .int .i64 p.Every, .int .i64 p.Times, .int .i64 p.Step, .sl 9 (List.map R9 p.Names)]] (.int .i64 r) := by
 unfold Jk at h
 replace h := Qh h
 refine So Try.func30 Y fun w0 A=>Tr<|Rq Y (Z3 (cva<|ov Y) Y tZ_36 Y)<|Ra Y<|Za<|Zh<|K1 1 Y<|Tr<|Rq Y (Zc (ov Y) Xx)<|Rq Y (Zb (ov Y) tS9 Y)<|bE h fun y h_y h=>Rq Y (Zp (ZdF h_y)<|.cons (ov Y) (.b Y) .nil)<|R1 Xb Y<|Za<|K2 1 10 Y<|If h Y (fun h=>?_) fun h=>?_
 ·
  refine K0<|Tr<|Ra Y<|Za<|?_
  obtain rfl := rt h
  exact Zk (Zq Y (.one<|rb Y))
 ·
  refine Zd<|Zh<|K1 1 Y<|Tr<|Rq Y (Zc (ov Y) Jc)<|Rq Y (Zb (ov Y) tS3 Y)<|bE h fun y2 h_y2 h=>Rq Y (Zp (QI h_y2)<|.cons (ov Y) (.b Y)<|.cons (ov Y) (.b Y)<|.cons (ov Y) (.b Y) .nil)<|Za<|K2 1 13 Y<|If h Y (fun h=>?_) fun h=>?_
  ·
   refine K0<|Tr<|Ra Y<|Za<|?_
   obtain rfl := rt h
   exact Zk (Zq Y (.one<|rb Y))
  ·
   refine Zd<|Zh<|K1 1 Y<|Tr<|Rq Y (Zg (ov Y) Qi Y Y)<|bE h fun y3 h_y3 h=>Rq Y (Zp (Zee h_y3)<|.cons (ov Y) (.aggB Y) .nil)<|Ra Y<|Za<|K2 1 3 Y<|Tr<|Rm Y<|R2 Qd Y<|Za<|K3 1 3 17 Y<|If h Y (fun h=>?_) fun h=>?_
   ·
    refine K1 3 Y<|Tr<|Rm Y<|Ra Y<|Za<|?_
    obtain rfl := rt h
    exact Zk (Zq Y (.one<|rb Y))
   ·
    refine Zd<|Zh<|K1 1 Y<|Tr<|Rq Y (Zg (ov Y) Qi Y Y)<|bE h fun y4 h_y4 h=>Rq Y (Zp (Zet h_y4)<|.cons (ov Y) (.aggB Y) .nil)<|Ra Y<|Za<|K2 1 4 Y<|Tr<|Rm Y<|R2 Qd Y<|Za<|K3 1 4 22 Y<|If h Y (fun h=>?_) fun h=>?_
    ·
     refine K1 4 Y<|Tr<|Rm Y<|Ra Y<|Za<|?_
     obtain rfl := rt h
     exact Zk (Zq Y (.one<|rb Y))
    ·
     refine Zd<|Zh<|K1 1 Y<|Tr<|Rq Y (Zg (ov Y) Qi Y Y)<|bE h fun y5 h_y5 h=>Rq Y (Zp (ZeY h_y5)<|.cons (ov Y) (.aggB Y) .nil)<|Ra Y<|Za<|K2 1 5 Y<|Tr<|Rm Y<|R2 Qd Y<|Za<|K3 1 5 27 Y<|If h Y (fun h=>?_) fun h=>?_
     ·
      refine K1 5 Y<|Tr<|Rm Y<|Ra Y<|Za<|?_
      obtain rfl := rt h
      exact Zk (Zq Y (.one<|rb Y))
     ·
      refine Zd<|K1 1 Y<|Tr<|Rq Y (Zg (ov Y) Qi Y Y)<|bE h fun y6 h_y6 h=>Rq Y (Zp (Zcq h_y6)<|.cons (ov Y) (.aggB Y)<|.cons (ov Y) (.b Y) .nil)<|Ra Y<|Za<|Zh<|K1 6 Y<|Tr<|Rx Y (ZcG 0 Y Ziz)<|Rm Y<|bE h fun y7 h_y7 h=>Rx Y (Zff [0] (Za7 h_y7) (.cons (ov Y) (.mref _ Y)<|.cons (ov Y) (.dat Y) .nil) (.cons Y (QB (fk := Q7) (fv := FV4) (m := ([] : List ((Vector Int 3) × Bool))) tZ_75 (fun _=>XL<|rld<|arD fun _ => Y) fun _=>.ren<|.dat Y) .nil) Y (.lent 0 (.inl Y) Y (QB (fk := Q7) (fv := FV4) (m := y7.2) tZ_75 (fun _=>XL<|rld<|arD fun _ => Y) fun _=>.ren<|.dat Y) .nil) Y Y<|.dat Y)<|R1 Xb Y<|Za<|K2 6 34 Y<|If h Y (fun h=>?_) fun h=>?_
      ·
       refine K0<|Tr<|Ra Y<|Za<|?_
       obtain rfl := rt h
       exact Zk (Zq Y (.one<|rb Y))
      ·
       refine Zd<|Zh<|K1 6 Y<|Tr<|Rm Y<|Rl tZ_71 Zcm Y<|R2 QQ Y<|Za<|K1 37 Y<|If h Y (fun h=>?_) fun h=>?_
       ·
        refine K0<|Tr<|Ra Y<|Za<|?_
        obtain rfl := rt h
        exact Zk (Zq Y (.one<|rb Y))
       ·
        refine Zd<|K0<|Tr<|Ra Y<|Za<|?_
        obtain rfl := rt h
        exact Zk (Zq Y (.one<|rb Y))
theorem ZgB {m : api_Map} {r : Int × Int} (h : Za9 m = some r) :
 CSpec Try.prog gl0 15 [.agg [.int .i64 m.Version, .sl 36 (List.map R36 m.Params)]] (.tuple [.int .i64 r.1, .int .i64 r.2]) := by
 unfold Za9 at h
 replace h := Qh h
 refine So Try.func15 Y fun w0 A=>Tr<|Rq Y (Z3 (cva<|ov Y) Y tZ_24 Y)<|Ra Y<|Ra Y<|Za<|Zh<|K1 1 Y<|Tr<|Rq Y (Zc (ov Y) Zho)<|Rq Y (Zb (ov Y) tS3 Y)<|bE h fun y h_y h=>Rq Y (Zp (QI h_y)<|.cons (ov Y) (.b Y)<|.cons (ov Y) (.b Y)<|.cons (ov Y) (.b Y) .nil)<|Za<|K2 1 17 Y<|If h Y (fun h=>?_) fun h=>?_
 ·
  refine K0<|Tr<|Ra Y<|Ra Y<|Za<|?_
  obtain rfl := rt h
  exact Zk (Zq Y (.two (rb Y)<|rb Y))
 ·
  refine Zd<|Zh<|K1 1 Y<|Tr<|Rq Y (Zc (ov Y) Q1)<|Rq Y (Zb (ov Y) Zbv Y)<|Rl tZ_36 Xy Y<|R2 Ji Y<|Za<|K2 1 21 Y<|If h Y (fun h=>?_) fun h=>?_
  ·
   refine K0<|Tr<|Ra Y<|Ra Y<|Za<|?_
   obtain rfl := rt h
   exact Zk (Zq Y (.two (rb Y)<|rb Y))
  ·
   refine Zd<|K1 1 Y<|Tr<|Ra Y<|Za<|J0 (fun j => (.inr j)) ⟨[(1, .rp [.int .i64 m.Version, .sl 36 (List.map R36 m.Params)] 0), (4, .int .i64 0)], []⟩ h (fun h=>?_) fun h=>?_
   ·
    refine Tr<|Rq Y (Zc (ov Y) Q1)<|Rq Y (Zb (ov Y) Zbv Y)<|Rl tZ_36 Xy Y<|Rm Y<|Za<|Ze<|?_
    obtain ⟨r1, hl1, ho1⟩ := Qu h
    refine L1 (fun i=>⟨[(1, .rp [.int .i64 m.Version, .sl 36 (List.map R36 m.Params)] 0), (4, .int .i64 0), (23, .sl 36 (List.map R36 m.Params)), (24, .int .i64 (m.Params.length : Int)), (25, .int .i64 i)], []⟩) hl1 (ES []) fun n1 i h=>?_
    unfold Zaj at h
    refine Tr<|R2 ZH Y<|Za<|Zh<|If h Y (fun h=>?_) fun h=>?_
    ·
     refine Zd<|J0 (fun j => (.inr j)) ⟨[(1, .rp [.int .i64 m.Version, .sl 36 (List.map R36 m.Params)] 0), (4, .int .i64 0), (23, .sl 36 (List.map R36 m.Params)), (24, .int .i64 (m.Params.length : Int)), (25, .int .i64 i)], []⟩ h (fun h=>?_) fun h=>?_
     ·
      refine Ze<|K5 1 4 23 24 25 Y<|Tr<|Rm Y<|bE h fun x h_x h=>Rq Y (Zw (ov Y) (ov Y) Xy h_x)<|Rq Y (Zg (ov Y) Qi Y Y)<|Rx Y (Zr (row := [_, _, _, _, _, _, _, _]) 0 Y Zcu Y tZ_36)<|Ra Y<|Rx Y (Zo (ov Y) (ov Y) (Zl Qi Y) Y Y Y (Nat.le_of_ble_eq_true Y) (Zf Y) Y)<|Za<|Zh<|K7 1 4 5 6 23 24 25 Y<|Tr<|Rq Y (Z0 (ov Y) Y Y Y Qi Y Y)<|bE h fun y2 h_y2 h=>Rq Y (Zp (Zev h_y2)<|.cons (ov Y) (.aggB Y) .nil)<|Ra Y<|Za<|K8 1 4 5 6 7 23 24 25 Y<|Tr<|Rm Y<|R2 Qd Y<|Za<|K9 1 4 5 6 7 23 24 25 33 Y<|If h Y (fun h=>?_) fun h=>?_
      ·
       refine K2 5 7 Y<|Tr<|Rm Y<|Rm Y<|Ra Y<|Ra Y<|Za<|?_
       replace h := lx h ▸ ho1
       obtain rfl := rt h
       exact Zk (Zq Y (.two (rb Y)<|rb Y))
      ·
       refine Zd<|K7 1 4 5 6 23 24 25 Y<|Tr<|Rq Y (Zc (ov Y) Q1)<|Rq Y (Zb (ov Y) Zbv Y)<|Rm Y<|bE h fun l h_l h=>Rq Y (ZeG (ov Y) Xy on (oi<|ov Y) h_l)<|Rl tZ_36 Xy Y<|Rm Y<|Za<|Ze<|?_
       obtain ⟨r2, hl2, ho2⟩ := Qu h
       refine L1 (fun i2=>⟨[(1, .rp [.int .i64 m.Version, .sl 36 (List.map R36 m.Params)] 0), (4, .int .i64 0), (5, .int .i64 i), (6, .ptr 0 1 0 0), (23, .sl 36 (List.map R36 m.Params)), (24, .int .i64 (m.Params.length : Int)), (25, .int .i64 i), (39, .sl 36 (List.map R36 l)), (40, .int .i64 (l.length : Int)), (41, .int .i64 i2)], [some ⟨36, [[.str x.Name, .int .i64 x.Kind, .sl 49 (List.map R49 x.Parts), .int .i64 x.First, .int .i64 x.Every, .int .i64 x.Times, .int .i64 x.Step, .sl 9 (List.map R9 x.Names)]]⟩]⟩) hl2 (ES [some 0]) fun n2 i2 h=>?_
       unfold Zae at h
       refine Tr<|R2 ZH Y<|Za<|Zh<|If h Y (fun h=>?_) fun h=>?_
       ·
        refine Zd<|Zh<|Ze<|K10 1 4 5 6 23 24 25 39 40 41 Y<|Tr<|bE h fun x2 h_x2 h=>Rq Y (Zw (ov Y) (ov Y) Xy h_x2)<|Rq Y (Zg (ov Y) Qi Y Y)<|Rx Y (Zr (row := [_, _, _, _, _, _, _, _]) 1 Y Zcu Y tZ_36)<|Rx Y (Zo (ov Y) (ov Y) (Zl Qi Y) Y Y Y (Nat.le_of_ble_eq_true Y) (Zf Y) Y)<|Za<|K11 1 4 5 6 9 23 24 25 39 40 41 Y<|Tr<|Rq Y (Zi (ov Y) Y Y Xx)<|Rq Y (Zj (ov Y) Y Y Y tS9 Y)<|Rq Y (Zi (ov Y) Y Y Xx)<|Rq Y (Zj (ov Y) Y Y Y tS9 Y)<|R2 Zb5 Y<|Za<|K11 1 4 5 6 23 24 25 39 40 41 49 Y<|If h Y (fun h=>?_) fun h=>?_
        ·
         refine K1 5 Y<|Tr<|Rm Y<|Ra Y<|Ra Y<|Za<|?_
         replace h := lx h ▸ ho2
         replace h := lx h ▸ ho1
         obtain rfl := rt h
         exact Zk (Zq Y (.two (rb Y)<|rb Y))
        ·
         exact Zd<|K10 1 4 5 6 23 24 25 39 40 41 Y<|Zs<|R2 ZX Y<|Rm Y<|Za<|⟨_, h, ES [some 0]⟩
       ·
        refine Zz<|?_
        replace h := lx h ▸ ho2
        exact ⟨_, h, ES []⟩
     ·
      replace h := elr h
      replace h := t0i h
      exact Zs<|R2 ZX Y<|Rm Y<|Za<|⟨_, h, ES []⟩
    ·
     refine Zz<|?_
     replace h := lx h ▸ ho1
     exact ⟨_, h, ES []⟩
   ·
    replace h := elr h
    replace h := t0i h
    refine J0 (fun j => (.inr j)) ⟨[(1, .rp [.int .i64 m.Version, .sl 36 (List.map R36 m.Params)] 0)], []⟩ h (fun h=>?_) fun h=>?_
    ·
     refine Tr<|Rq Y (Zc (ov Y) Q1)<|Rq Y (Zb (ov Y) Zbv Y)<|Rl tZ_36 Xy Y<|Rm Y<|Za<|Ze<|?_
     obtain ⟨r3, hl3, ho3⟩ := Qu h
     refine L2 (fun n i3=>⟨[(1, .rp [.int .i64 m.Version, .sl 36 (List.map R36 m.Params)] 0), (4, .int .i64 n), (54, .sl 36 (List.map R36 m.Params)), (55, .int .i64 (m.Params.length : Int)), (56, .int .i64 i3)], []⟩) hl3 (ES []) fun n3 n i3 h=>?_
     unfold Jp at h
     refine Tr<|R2 ZH Y<|Za<|Zh<|If h Y (fun h=>?_) fun h=>?_
     ·
      refine Zd<|Zh<|Ze<|K5 1 4 54 55 56 Y<|Tr<|Rm Y<|bE h fun x3 h_x3 h=>Rq Y (Zw (ov Y) (ov Y) Xy h_x3)<|Rq Y (Zg (ov Y) Qi Y Y)<|Rx Y (Zr (row := [_, _, _, _, _, _, _, _]) 0 Y Zcu Y tZ_36)<|Ra Y<|Rx Y (Zo (ov Y) (ov Y) (Zl Qi Y) Y Y Y (Nat.le_of_ble_eq_true Y) (Zf Y) Y)<|Za<|K7 1 4 10 11 54 55 56 Y<|Tr<|Rm Y<|Rq Y (Z0 (ov Y) Y Y Y Qi Y Y)<|Rm Y<|bE h fun y3 h_y3 h=>Rq Y (Zp (Zcq h_y3)<|.cons (ov Y) (.aggB Y)<|.cons (ov Y) (.b Y) .nil)<|Rl tZ_71 Zcm Y<|R2 ZX Y<|Ra Y<|Za<|K6 1 4 10 54 55 56 Y<|Tr<|Rm Y<|R2 Ji Y<|Za<|K7 1 4 10 54 55 56 68 Y<|If h Y (fun h=>?_) fun h=>?_
      ·
       refine K1 10 Y<|Tr<|Rm Y<|Ra Y<|Ra Y<|Za<|?_
       replace h := lx h ▸ ho3
       obtain rfl := rt h
       exact Zk (Zq Y (.two (rb Y)<|rb Y))
      ·
       exact Zd<|K5 1 4 54 55 56 Y<|Zs<|R2 ZX Y<|Rm Y<|Za<|⟨_, h, ES []⟩
     ·
      refine Zz<|?_
      replace h := lx h ▸ ho3
      exact ⟨_, h, ES []⟩
    ·
     replace h := elr h
     replace h := t0i h
     refine Tr<|Rx Y (ZcG 0 Y Ziz)<|Ra Y<|Za<|J0 (fun j => (.inr j)) ⟨[], []⟩ h (fun h=>?_) fun h=>?_
     ·
      refine K2 1 12 Y<|Tr<|Rq Y (Zc (ov Y) Q1)<|Rq Y (Zb (ov Y) Zbv Y)<|Rl tZ_36 Xy Y<|Rm Y<|Za<|Ze<|?_
      obtain ⟨r4, hl4, ho4⟩ := Qu h
      refine L2 (fun t i4=>⟨[(12, .mref 0 1), (73, .sl 36 (List.map R36 m.Params)), (74, .int .i64 (m.Params.length : Int)), (75, .int .i64 i4)], [some ⟨75, [[.mcon (List.map (QP Q7 FV4) t)]]⟩]⟩) hl4 (ES [some 0] (hhp := .cons Y (QB (fk := Q7) (fv := FV4) (m := ([] : List ((Vector Int 3) × Bool))) tZ_75 (fun _=>XL<|rld<|arD fun _ => Y) fun _=>.ren<|.dat Y) .nil)) fun n4 t i4 h=>?_
      unfold Jn at h
      refine Tr<|R2 ZH Y<|Za<|Zh<|If h Y (fun h=>?_) fun h=>?_
      ·
       refine Zd<|Zh<|Ze<|K4 12 73 74 75 Y<|Tr<|Rm Y<|bE h fun x4 h_x4 h=>Rq Y (Zw (ov Y) (ov Y) Xy h_x4)<|Rq Y (Zg (ov Y) Qi Y Y)<|Rx Y (Zr (row := [_, _, _, _, _, _, _, _]) 1 Y Zcu Y tZ_36)<|Ra Y<|Rx Y (Zo (ov Y) (ov Y) (Zl Qi Y) Y Y Y (Nat.le_of_ble_eq_true Y) (Zf Y) Y)<|Za<|K6 12 13 14 73 74 75 Y<|Tr<|Rm Y<|Rq Y (Z0 (ov Y) Y Y Y Qi Y Y)<|Rm Y<|bE h fun y4 h_y4 h=>Rq Y (Zp (Zcq h_y4)<|.cons (ov Y) (.aggB Y)<|.cons (ov Y) (.b Y) .nil)<|bE h fun y5 h_y5 h=>Rx Y (Zff [0] (Za7 h_y5) (.cons (ov Y) (.mref _ Y)<|.cons (ov Y) (.dat Y) .nil) (.cons Y (QB (fk := Q7) (fv := FV4) (m := t) tZ_75 (fun _=>XL<|rld<|arD fun _ => Y) fun _=>.ren<|.dat Y) .nil) Y (.lent 0 (.inl Y) Y (QB (fk := Q7) (fv := FV4) (m := y5.2) tZ_75 (fun _=>XL<|rld<|arD fun _ => Y) fun _=>.ren<|.dat Y)<|.keep Y Y .nil) Y Y<|.dat Y)<|R1 Xb Y<|Za<|K6 12 13 73 74 75 85 Y<|If h Y (fun h=>?_) fun h=>?_
       ·
        refine K1 13 Y<|Tr<|Rm Y<|Ra Y<|Ra Y<|Za<|?_
        replace h := lx h ▸ ho4
        obtain rfl := rt h
        exact Zk (Zq Y (.two (rb Y)<|rb Y))
       ·
        exact Zd<|K4 12 73 74 75 Y<|Zs<|R2 ZX Y<|Rm Y<|Za<|⟨_, h, ES [some 0] (hhp := .cons Y (QB (fk := Q7) (fv := FV4) (m := y5.2) tZ_75 (fun _=>XL<|rld<|arD fun _ => Y) fun _=>.ren<|.dat Y) .nil)⟩
      ·
       refine Zz<|?_
       replace h := lx h ▸ ho4
       exact ⟨_, h, ES []⟩
     ·
      replace h := elr h
      replace h := t0i h
      refine Tr<|Ra Y<|Ra Y<|Za<|?_
      obtain rfl := rt h
      exact Zk (Zq Y (.two (rb Y)<|rb Y))
theorem ZeD {m : api_Map} {name : Str} {r : api_Param × Bool} (h : Zaz m name = some r) :
 CSpec Try.prog gl0 16 [.agg [.int .i64 m.Version, .sl 36 (List.map R36 m.Params)], .str name] (.tuple [.agg [.str r.1.Name, .int .i64 r.1.Kind, .sl 49 (List.map R49 r.1.Parts), .int .i64 r.1.First, .int .i64 r.1.Every, .int .i64 r.1.Times, .int .i64 r.1.Step, .sl 9 (List.map R9 r.1.Names)], .bool r.2]) := by
 unfold Zaz at h
 replace h := Qh h
 refine So Try.func16 Y fun w0 A=>Tr<|Rq Y (Z3 (cva<|ov Y) Y tZ_24 Y)<|Rx Y (Zr (row := [_, _, _, _, _, _, _, _]) 0 Y Zcu Y tZ_36)<|Ra Y<|Za<|J0 (fun j => (.inr j)) ⟨[(4, .ptr 0 1 0 0)], [some ⟨36, [[.str [], .int .i64 0, .nils, .int .i64 0, .int .i64 0, .int .i64 0, .int .i64 0, .nils]]⟩]⟩ h (fun h=>?_) fun h=>?_
 ·
  refine K3 1 2 4 Y<|Tr<|Rq Y (Zc (ov Y) Q1)<|Rq Y (Zb (ov Y) Zbv Y)<|Rl tZ_36 Xy Y<|Rm Y<|Za<|Ze<|?_
  obtain ⟨r1, hl1, ho1⟩ := Qu h
  refine L1 (fun i=>⟨[(1, .str name), (4, .ptr 0 1 0 0), (9, .sl 36 (List.map R36 m.Params)), (10, .int .i64 (m.Params.length : Int)), (11, .int .i64 i)], [some ⟨36, [[.str [], .int .i64 0, .nils, .int .i64 0, .int .i64 0, .int .i64 0, .int .i64 0, .nils]]⟩]⟩) hl1 (ES [some 0]) fun n1 i h=>?_
  unfold ZaD at h
  refine Tr<|R2 ZH Y<|Za<|Zh<|If h Y (fun h=>?_) fun h=>?_
  ·
   refine Zd<|Zh<|Ze<|K5 1 4 9 10 11 Y<|Tr<|bE h fun x h_x h=>Rq Y (Zw (ov Y) (ov Y) Xy h_x)<|Rq Y (Zg (ov Y) Qi Y Y)<|Rx Y (Zr (row := [_, _, _, _, _, _, _, _]) 1 Y Zcu Y tZ_36)<|Rx Y (Zo (ov Y) (ov Y) (Zl Qi Y) Y Y Y (Nat.le_of_ble_eq_true Y) (Zf Y) Y)<|Za<|K6 1 4 7 9 10 11 Y<|Tr<|Rq Y (Zi (ov Y) Y Y Xx)<|Rq Y (Zj (ov Y) Y Y Y tS9 Y)<|Rm Y<|R2 Zb5 Y<|Za<|K7 1 4 7 9 10 11 18 Y<|If h Y (fun h=>?_) fun h=>?_
   ·
    refine K2 4 7 Y<|Tr<|Rq Y (Z0 (ov Y) Y Y Y Qi Y Y)<|Rx Y (Zo (ov Y) (ov Y) (Zl Qi Y) Y Y Y (Nat.le_of_ble_eq_true Y) (Zf Y) Y)<|Ra Y<|Za<|?_
    replace h := lx h ▸ ho1
    obtain rfl := rt h
    exact Zk (Zq Y (.two (.agg Y Y Y Y Qi Y Y<|pwB Y)<|rb Y))
   ·
    exact Zd<|K5 1 4 9 10 11 Y<|Zs<|R2 ZX Y<|Rm Y<|Za<|⟨_, h, ES [some 0]⟩
  ·
   refine Zz<|?_
   replace h := lx h ▸ ho1
   exact ⟨_, h, ES [some 0]⟩
 ·
  replace h := elr h
  replace h := t0i h
  refine Tr<|Rq Y (Q3 (ys := [_, _, _, _, _, _, _, _]) ZkU Zk2 Zcu .nil Y)<|Rx Y (Zo (ov Y) (ov Y) (Zl Qi Y) Y Y Y (Nat.le_of_ble_eq_true Y) (Zf Y) Y)<|Ra Y<|Za<|?_
  obtain rfl := rt h
  exact Zk (Zq Y (.two (.agg Y Y Y Y Qi Y Y<|.cons (Dat.view<|.b Y)<|.cons (Dat.view<|.b Y)<|.cons (View.nils 49)<|.cons (Dat.view<|.b Y)<|.cons (Dat.view<|.b Y)<|.cons (Dat.view<|.b Y)<|.cons (Dat.view<|.b Y)<|.cons (View.nils 9) .nil)<|rb Y))
theorem ZeN {a : List Str} {b : List Str} {r : Bool} (h : ZaS a b = some r) :
 CSpec Try.prog gl0 18 [.sl 9 (List.map R9 a), .sl 9 (List.map R9 b)] (.bool r) := by
 unfold ZaS at h
 replace h := Qh h
 refine So Try.func18 Y fun w0 A=>Tr<|Ra Y<|Za<|Zh<|K2 0 1 Y<|Tr<|Rm Y<|Rl tZ_9 ZaX Y<|Rm Y<|Rl tZ_9 ZaX Y<|R2 Qd Y<|Za<|K3 0 1 10 Y<|If h Y (fun h=>?_) fun h=>?_
 ·
  refine K0<|Tr<|Ra Y<|Za<|?_
  obtain rfl := rt h
  exact Zk (Zq Y (.one<|rb Y))
 ·
  refine Zd<|J0 (fun j => (.inr j)) ⟨[], []⟩ h (fun h=>?_) fun h=>?_
  ·
   refine K2 0 1 Y<|Tr<|Rm Y<|Rl tZ_9 ZaX Y<|Rm Y<|Za<|Ze<|?_
   obtain ⟨r1, hl1, ho1⟩ := Qu h
   refine L1 (fun i=>⟨[(0, .sl 9 (List.map R9 a)), (1, .sl 9 (List.map R9 b)), (12, .int .i64 (a.length : Int)), (13, .int .i64 i)], []⟩) hl1 (ES []) fun n1 i h=>?_
   unfold Zcc at h
   refine Tr<|R2 ZH Y<|Za<|Zh<|If h Y (fun h=>?_) fun h=>?_
   ·
    refine Zd<|Zh<|Ze<|K4 0 1 12 13 Y<|Tr<|Rm Y<|Ra Y<|Za<|K5 0 1 5 12 13 Y<|Td md0<|D1 0 Zm Y<|D1 1 Zm Y<|bE h fun x h_x h=>Dq 2 Y (Zw (ov Y) (ov Y) ZaX h_x)<|Dq 3 Y (Zb (ov Y) tS9 Y)<|D1 4 Zm Y<|D1 5 Zm Y<|bE h fun x2 h_x2 h=>Dq 6 Y (Zw (ov Y) (ov Y) ZaX h_x2)<|Dq 7 Y (Zb (ov Y) tS9 Y)<|D2 8 Zhx Y<|Dd<|K5 0 1 12 13 24 Y<|If h Y (fun h=>?_) fun h=>?_
    ·
     refine K0<|Tr<|Ra Y<|Za<|?_
     replace h := lx h ▸ ho1
     obtain rfl := rt h
     exact Zk (Zq Y (.one<|rb Y))
    ·
     exact Zd<|K4 0 1 12 13 Y<|Zs<|R2 ZX Y<|Rm Y<|Za<|⟨_, h, ES []⟩
   ·
    refine Zz<|?_
    replace h := lx h ▸ ho1
    exact ⟨_, h, ES []⟩
  ·
   replace h := elr h
   replace h := t0i h
   refine Tr<|Ra Y<|Za<|?_
   obtain rfl := rt h
   exact Zk (Zq Y (.one<|rb Y))
theorem ZeI {a : List api_Part} {b : List api_Part} {r : Bool} (h : Za2 a b = some r) :
 CSpec Try.prog gl0 19 [.sl 49 (List.map R49 a), .sl 49 (List.map R49 b)] (.bool r) := by
 unfold Za2 at h
 replace h := Qh h
 refine So Try.func19 Y fun w0 A=>Tr<|Ra Y<|Za<|Zh<|K2 0 1 Y<|Tr<|Rm Y<|Rl tZ_49 JD Y<|Rm Y<|Rl tZ_49 JD Y<|R2 Qd Y<|Za<|K3 0 1 10 Y<|If h Y (fun h=>?_) fun h=>?_
 ·
  refine K0<|Tr<|Ra Y<|Za<|?_
  obtain rfl := rt h
  exact Zk (Zq Y (.one<|rb Y))
 ·
  refine Zd<|J0 (fun j => (.inr j)) ⟨[], []⟩ h (fun h=>?_) fun h=>?_
  ·
   refine K2 0 1 Y<|Tr<|Rm Y<|Rl tZ_49 JD Y<|Rm Y<|Za<|Ze<|?_
   obtain ⟨r1, hl1, ho1⟩ := Qu h
   refine L1 (fun i=>⟨[(0, .sl 49 (List.map R49 a)), (1, .sl 49 (List.map R49 b)), (12, .int .i64 (a.length : Int)), (13, .int .i64 i)], []⟩) hl1 (ES []) fun n1 i h=>?_
   unfold Zce at h
   refine Tr<|R2 ZH Y<|Za<|Zh<|If h Y (fun h=>?_) fun h=>?_
   ·
    refine Zd<|Zh<|Ze<|K4 0 1 12 13 Y<|Tr<|Rm Y<|Ra Y<|Za<|K5 0 1 5 12 13 Y<|Td md0<|D1 0 Zm Y<|D1 1 Zm Y<|bE h fun x h_x h=>Dq 2 Y (Zw (ov Y) (ov Y) JD h_x)<|Dq 3 Y (Zg (ov Y) ZbR Y Y)<|D1 4 Zm Y<|D1 5 Zm Y<|bE h fun x2 h_x2 h=>Dq 6 Y (Zw (ov Y) (ov Y) JD h_x2)<|Dq 7 Y (Zg (ov Y) ZbR Y Y)<|Dq 8 Y (Zh8 ZkY (ov Y) (ov Y) (.aggB Y) (.aggB Y) Y Y)<|Dd<|K5 0 1 12 13 24 Y<|If h Y (fun h=>?_) fun h=>?_
    ·
     refine K0<|Tr<|Ra Y<|Za<|?_
     replace h := lx h ▸ ho1
     obtain rfl := rt h
     exact Zk (Zq Y (.one<|rb Y))
    ·
     exact Zd<|K4 0 1 12 13 Y<|Zs<|R2 ZX Y<|Rm Y<|Za<|⟨_, h, ES []⟩
   ·
    refine Zz<|?_
    replace h := lx h ▸ ho1
    exact ⟨_, h, ES []⟩
  ·
   replace h := elr h
   replace h := t0i h
   refine Tr<|Ra Y<|Za<|?_
   obtain rfl := rt h
   exact Zk (Zq Y (.one<|rb Y))
theorem Zhk {a : api_Map} {b : api_Map} {r : (List api_MapChange) × Int} (h : ZcA a b = some r) :
 CSpec Try.prog gl0 5 [.agg [.int .i64 a.Version, .sl 36 (List.map R36 a.Params)], .agg [.int .i64 b.Version, .sl 36 (List.map R36 b.Params)]] (.tuple [.sl 31 (List.map R31 r.1), .int .i64 r.2]) := by
 unfold ZcA at h
 replace h := Qh h
 refine So Try.func5 Y fun w0 A=>Tr<|Rq Y (Z3 (cva<|ov Y) Y tZ_24 Y)<|Rq Y (Z3 (cva<|ov Y) Y tZ_24 Y)<|Ra Y<|Ra Y<|Za<|J0 (fun j => (.inr j)) ⟨[(2, .rp [.int .i64 a.Version, .sl 36 (List.map R36 a.Params)] 0), (3, .rp [.int .i64 b.Version, .sl 36 (List.map R36 b.Params)] 0)], []⟩ h (fun h=>?_) fun h=>?_
 ·
  refine K2 2 3 Y<|Tr<|Rq Y (Zg (ov Y) ZbE Y Y)<|Rq Y (Zg (ov Y) ZbE Y Y)<|R_q (.sl 24<|List.map R24 ([a, b] : List api_Map)) Y (Za6 Zjf (.cons (cva<|ov Y) Y (pwD Y)<|.cons (cva<|ov Y) Y (pwD Y) .nil) Y Y)<|Rl tZ_24 Zjf Y<|Rm Y<|Za<|Ze<|?_
  obtain ⟨r1, hl1, ho1⟩ := Qu h
  refine L1 (fun i=>⟨[(2, .rp [.int .i64 a.Version, .sl 36 (List.map R36 a.Params)] 0), (3, .rp [.int .i64 b.Version, .sl 36 (List.map R36 b.Params)] 0), (21, .sl 24 (List.map R24 ([a, b] : List api_Map))), (22, .int .i64 (([a, b] : List api_Map).length : Int)), (23, .int .i64 i)], []⟩) hl1 (ES []) fun n1 i h=>?_
  unfold Zc2 at h
  refine Tr<|R2 ZH Y<|Za<|Zh<|If h Y (fun h=>?_) fun h=>?_
  ·
   refine Zd<|Zh<|Ze<|K5 2 3 21 22 23 Y<|Tr<|bE h fun x h_x h=>Rq Y (Zw (ov Y) (ov Y) Zjf h_x)<|Rq Y (Zg (ov Y) ZbE Y Y)<|Rx Y (Zr (row := [_, _]) 0 Y Zku Y tZ_24)<|Rx Y (Zo (ov Y) (ov Y) (Zl ZbE Y) Y Y Y (Nat.le_of_ble_eq_true Y) (Zf Y) Y)<|Za<|K6 2 3 7 21 22 23 Y<|Tr<|Rq Y (Z0 (ov Y) Y Y Y ZbE Y Y)<|bE h fun y h_y h=>Rq Y (Zp (ZgB h_y)<|.cons (ov Y) (.aggB Y) .nil)<|Rm Y<|Rq Y (ZM (ov Y) Y)<|Rq Y (ZM (ov Y) Y)<|Ra Y<|Ra Y<|Za<|K6 2 3 9 21 22 23 Y<|Tr<|Rm Y<|R2 Qd Y<|Za<|K7 2 3 9 21 22 23 33 Y<|If h Y (fun h=>?_) fun h=>?_
   ·
    refine K1 9 Y<|Tr<|Rm Y<|Ra Y<|Ra Y<|Za<|?_
    replace h := lx h ▸ ho1
    obtain rfl := rt h
    exact Zk (Zq Y (.two (.tmp Y<|View.nils 31)<|rb Y))
   ·
    exact Zd<|K5 2 3 21 22 23 Y<|Zs<|R2 ZX Y<|Rm Y<|Za<|⟨_, h, ES []⟩
  ·
   refine Zz<|?_
   replace h := lx h ▸ ho1
   exact ⟨_, h, ES []⟩
 ·
  replace h := elr h
  replace h := t0i h
  refine Tr<|Ra Y<|Za<|I1 (fun out=>⟨[(2, .rp [.int .i64 a.Version, .sl 36 (List.map R36 a.Params)] 0), (3, .rp [.int .i64 b.Version, .sl 36 (List.map R36 b.Params)] 0), (10, .own 0 out.length)], [some ⟨31, List.map R31 out⟩]⟩) h (fun h=>?_) fun out h=>?_
  ·
   refine Tr<|Rq Y (Zc (ov Y) Q1)<|Rq Y (Zb (ov Y) Zbv Y)<|Rl tZ_36 Xy Y<|Rm Y<|Za<|Ze<|?_
   obtain ⟨r2, hl2, ho2⟩ := Qu h
   refine L2 (fun out2 i2=>⟨[(2, .rp [.int .i64 a.Version, .sl 36 (List.map R36 a.Params)] 0), (3, .rp [.int .i64 b.Version, .sl 36 (List.map R36 b.Params)] 0), (10, .own 0 out2.length), (37, .sl 36 (List.map R36 a.Params)), (38, .int .i64 (a.Params.length : Int)), (39, .int .i64 i2)], [some ⟨31, List.map R31 out2⟩]⟩) hl2 (ES [none]) fun n2 out2 i2 h=>?_
   unfold X7 at h
   refine Tr<|R2 ZH Y<|Za<|Zh<|If h Y (fun h=>?_) fun h=>?_
   ·
    refine Zd<|Zh<|Ze<|K6 2 3 10 37 38 39 Y<|Tr<|bE h fun x2 h_x2 h=>Rq Y (Zw (ov Y) (ov Y) Xy h_x2)<|Rq Y (Zg (ov Y) Qi Y Y)<|Rx Y (Zr (row := [_, _, _, _, _, _, _, _]) 1 Y Zcu Y tZ_36)<|Rx Y (Zo (ov Y) (ov Y) (Zl Qi Y) Y Y Y (Nat.le_of_ble_eq_true Y) (Zf Y) Y)<|Za<|K7 2 3 10 12 37 38 39 Y<|Tr<|Rq Y (Zg (ov Y) ZbE Y Y)<|Rq Y (Zi (ov Y) Y Y Xx)<|Rq Y (Zj (ov Y) Y Y Y tS9 Y)<|bE h fun y2 h_y2 h=>Rq Y (Zp (ZeD h_y2)<|.cons (ov Y) (.aggB Y)<|.cons (ov Y) (.b Y) .nil)<|Rm Y<|Rq Y (ZM (ov Y) Y)<|Rq Y (ZM (ov Y) Y)<|Rx Y (Zr (row := [_, _, _, _, _, _, _, _]) 2 Y Zcu Y tZ_36)<|Rx Y (Zo (ov Y) (ov Y) (Zl Qi Y) Y Y Y (Nat.le_of_ble_eq_true Y) (Zf Y) Y)<|Ra Y<|Za<|Zh<|K9 2 3 10 12 13 14 37 38 39 Y<|Tr<|Rm Y<|R1 Xb Y<|Za<|K9 2 3 10 12 13 37 38 39 51 Y<|If h Y (fun h=>?_) fun h=>?_
    ·
     exact K7 2 3 10 12 37 38 39 Y<|Tr<|Rm Y<|Rq Y (Zi (ov Y) Y Y Xx)<|Rq Y (Zj (ov Y) Y Y Y tS9 Y)<|Rq Y (Q3 (ys := [_, _]) ZhK Zhv Zj9 (.cons (cvs (ov Y)<|Zn Y)<|.cons (cvs (ov Y)<|Zn Y) .nil) Y)<|R_q (.sl 31<|List.map R31 ([(api_MapChange.mk x2.Name 1)] : List api_MapChange)) Y (Za6 Zd3 (.cons (cva<|ov Y) Y (pwD Y) .nil) Y Y)<|bE h fun l h_l h=>Rx Y (Xg (ov Y) (Xk (ov Y) tZ_31) Zd3 Y Y Y (fun _=>Zf Y) Y h_l)<|Ra Y<|Za<|Zz<|K6 2 3 10 37 38 39 Y<|Zs<|R2 ZX Y<|Rm Y<|Za<|⟨_, h, ES [some 0]⟩
    ·
     refine Zd<|I1 (fun out3=>⟨[(2, .rp [.int .i64 a.Version, .sl 36 (List.map R36 a.Params)] 0), (3, .rp [.int .i64 b.Version, .sl 36 (List.map R36 b.Params)] 0), (10, .own 0 out3.length), (12, .ptr 1 1 0 0), (13, .ptr 2 1 0 0), (37, .sl 36 (List.map R36 a.Params)), (38, .int .i64 (a.Params.length : Int)), (39, .int .i64 i2)], [some ⟨31, List.map R31 out3⟩, some ⟨36, [[.str x2.Name, .int .i64 x2.Kind, .sl 49 (List.map R49 x2.Parts), .int .i64 x2.First, .int .i64 x2.Every, .int .i64 x2.Times, .int .i64 x2.Step, .sl 9 (List.map R9 x2.Names)]]⟩, some ⟨36, [[.str y2.1.Name, .int .i64 y2.1.Kind, .sl 49 (List.map R49 y2.1.Parts), .int .i64 y2.1.First, .int .i64 y2.1.Every, .int .i64 y2.1.Times, .int .i64 y2.1.Step, .sl 9 (List.map R9 y2.1.Names)]]⟩]⟩) h (fun h=>?_) fun out3 h=>?_
     ·
      refine K8 2 3 10 12 13 37 38 39 Y<|Td md0<|Dq 0 Y (Zi (ov Y) Y Y Jc)<|Dq 1 Y (Zj (ov Y) Y Y Y tS3 Y)<|Dq 2 Y (Zi (ov Y) Y Y Jc)<|Dq 3 Y (Zj (ov Y) Y Y Y tS3 Y)<|D2 4 Qd Y<|D1 5 Zm Y<|Dq 6 Y (.guarded ((!decide (x2.Kind = y2.1.Kind)) == false) Y Y Y Y fun h => Z0 (ov Y) Y Y Y Qi Y Y)<|bE h fun y3 h_y3 h=>Dq 7 Y (.guarded ((!decide (x2.Kind = y2.1.Kind)) == false) Y Y Y Y fun h => Zp (ZbQ<|gdT h_y3 h)<|.cons (ow Y h) (.aggB Y) .nil)<|Dq 8 Y (.guarded ((!decide (x2.Kind = y2.1.Kind)) == false) Y Y Y Y fun h => Z0 (ov Y) Y Y Y Qi Y Y)<|bE h fun y4 h_y4 h=>Dq 9 Y (.guarded ((!decide (x2.Kind = y2.1.Kind)) == false) Y Y Y Y fun h => Zp (ZbQ<|gdT h_y4 h)<|.cons (ow Y h) (.aggB Y) .nil)<|Dq 10 Y (.guarded ((!decide (x2.Kind = y2.1.Kind)) == false) Y Y Y Y fun h => Qd (ow Y h)<|ow Y h)<|Dq 11 Y (QZ (ov Y) fun hp=>ow Y<|gF hp)<|D1 12 Zm Y<|Dq 13 Y (.guarded (((!decide (x2.Kind = y2.1.Kind)) || (!decide (y3 = y4))) == false) Y Y Y Y fun h => Zi (ov Y) Y Y X3)<|Dq 14 Y (.guarded (((!decide (x2.Kind = y2.1.Kind)) || (!decide (y3 = y4))) == false) Y Y Y Y fun h => Zj (ow Y h) Y Y Y Zc1 Y)<|Dq 15 Y (.guarded (((!decide (x2.Kind = y2.1.Kind)) || (!decide (y3 = y4))) == false) Y Y Y Y fun h => Zi (ov Y) Y Y X3)<|Dq 16 Y (.guarded (((!decide (x2.Kind = y2.1.Kind)) || (!decide (y3 = y4))) == false) Y Y Y Y fun h => Zj (ow Y h) Y Y Y Zc1 Y)<|bE h fun y5 h_y5 h=>Dq 17 Y (.guarded (((!decide (x2.Kind = y2.1.Kind)) || (!decide (y3 = y4))) == false) Y Y Y Y fun h => Zp (ZeN<|gdT h_y5 h)<|.cons (ow Y h) (.b Y)<|.cons (ow Y h) (.b Y) .nil)<|Dq 18 Y (.guarded (((!decide (x2.Kind = y2.1.Kind)) || (!decide (y3 = y4))) == false) Y Y Y Y fun h => Xb<|ow Y h)<|Dq 19 Y (QZ (ov Y) fun hp=>ow Y<|gF hp)<|Dd<|K9 2 3 10 12 13 37 38 39 77 Y<|If h Y (fun h=>?_) fun h=>?_
      ·
       exact K8 2 3 10 12 13 37 38 39 Y<|Zs<|Rm Y<|Rq Y (Zi (ov Y) Y Y Xx)<|Rq Y (Zj (ov Y) Y Y Y tS9 Y)<|Rq Y (Q3 (ys := [_, _]) ZhK Zhv Zj9 (.cons (cvs (ov Y)<|Zn Y)<|.cons (cvs (ov Y)<|Zn Y) .nil) Y)<|R_q (.sl 31<|List.map R31 ([(api_MapChange.mk x2.Name 4)] : List api_MapChange)) Y (Za6 Zd3 (.cons (cva<|ov Y) Y (pwD Y) .nil) Y Y)<|bE h fun l2 h_l2 h=>Rx Y (Xg (ov Y) (Xk (ov Y) tZ_31) Zd3 Y Y Y (fun _=>Zf Y) Y h_l2)<|Ra Y<|Za<|⟨_, h, ES [some 0, some 1, some 2]⟩
      ·
       exact Zd<|⟨_, h, ES [some 0, some 1, some 2]⟩
     ·
      refine Tr<|Rq Y (Zi (ov Y) Y Y XQ)<|Rq Y (Zj (ov Y) Y Y Y ZcE Y)<|Rq Y (Zi (ov Y) Y Y XQ)<|Rq Y (Zj (ov Y) Y Y Y ZcE Y)<|bE h fun y6 h_y6 h=>Rq Y (Zp (ZeI h_y6)<|.cons (ov Y) (.b Y)<|.cons (ov Y) (.b Y) .nil)<|R1 Xb Y<|Rm Y<|Rq Y (.guarded ((!y6) == false) Y Y Y Y fun h => Zi (ov Y) Y Y Zcl)<|Rq Y (.guarded ((!y6) == false) Y Y Y Y fun h => Zj (ow Y h) Y Y Y tS3 Y)<|Rq Y (.guarded ((!y6) == false) Y Y Y Y fun h => Zi (ov Y) Y Y Zcl)<|Rq Y (.guarded ((!y6) == false) Y Y Y Y fun h => Zj (ow Y h) Y Y Y tS3 Y)<|Rq Y (.guarded ((!y6) == false) Y Y Y Y fun h => Qd (ow Y h)<|ow Y h)<|Rq Y (QZ (ov Y) fun hp=>ow Y<|gF hp)<|Rm Y<|Rq Y (.guarded (((!y6) || (!decide (x2.First = y2.1.First))) == false) Y Y Y Y fun h => Zi (ov Y) Y Y ZbH)<|Rq Y (.guarded (((!y6) || (!decide (x2.First = y2.1.First))) == false) Y Y Y Y fun h => Zj (ow Y h) Y Y Y tS3 Y)<|Rq Y (.guarded (((!y6) || (!decide (x2.First = y2.1.First))) == false) Y Y Y Y fun h => Zi (ov Y) Y Y ZbH)<|Rq Y (.guarded (((!y6) || (!decide (x2.First = y2.1.First))) == false) Y Y Y Y fun h => Zj (ow Y h) Y Y Y tS3 Y)<|Rq Y (.guarded (((!y6) || (!decide (x2.First = y2.1.First))) == false) Y Y Y Y fun h => Qd (ow Y h)<|ow Y h)<|Rq Y (QZ (ov Y) fun hp=>ow Y<|gF hp)<|Rm Y<|Rq Y (.guarded ((((!y6) || (!decide (x2.First = y2.1.First))) || (!decide (x2.Every = y2.1.Every))) == false) Y Y Y Y fun h => Zi (ov Y) Y Y J3)<|Rq Y (.guarded ((((!y6) || (!decide (x2.First = y2.1.First))) || (!decide (x2.Every = y2.1.Every))) == false) Y Y Y Y fun h => Zj (ow Y h) Y Y Y tS3 Y)<|Rq Y (.guarded ((((!y6) || (!decide (x2.First = y2.1.First))) || (!decide (x2.Every = y2.1.Every))) == false) Y Y Y Y fun h => Zi (ov Y) Y Y J3)<|Rq Y (.guarded ((((!y6) || (!decide (x2.First = y2.1.First))) || (!decide (x2.Every = y2.1.Every))) == false) Y Y Y Y fun h => Zj (ow Y h) Y Y Y tS3 Y)<|Rq Y (.guarded ((((!y6) || (!decide (x2.First = y2.1.First))) || (!decide (x2.Every = y2.1.Every))) == false) Y Y Y Y fun h => Qd (ow Y h)<|ow Y h)<|Rq Y (QZ (ov Y) fun hp=>ow Y<|gF hp)<|Rm Y<|Rq Y (.guarded (((((!y6) || (!decide (x2.First = y2.1.First))) || (!decide (x2.Every = y2.1.Every))) || (!decide (x2.Times = y2.1.Times))) == false) Y Y Y Y fun h => Zi (ov Y) Y Y Zaa)<|Rq Y (.guarded (((((!y6) || (!decide (x2.First = y2.1.First))) || (!decide (x2.Every = y2.1.Every))) || (!decide (x2.Times = y2.1.Times))) == false) Y Y Y Y fun h => Zj (ow Y h) Y Y Y tS3 Y)<|Rq Y (.guarded (((((!y6) || (!decide (x2.First = y2.1.First))) || (!decide (x2.Every = y2.1.Every))) || (!decide (x2.Times = y2.1.Times))) == false) Y Y Y Y fun h => Zi (ov Y) Y Y Zaa)<|Rq Y (.guarded (((((!y6) || (!decide (x2.First = y2.1.First))) || (!decide (x2.Every = y2.1.Every))) || (!decide (x2.Times = y2.1.Times))) == false) Y Y Y Y fun h => Zj (ow Y h) Y Y Y tS3 Y)<|Rq Y (.guarded (((((!y6) || (!decide (x2.First = y2.1.First))) || (!decide (x2.Every = y2.1.Every))) || (!decide (x2.Times = y2.1.Times))) == false) Y Y Y Y fun h => Qd (ow Y h)<|ow Y h)<|Rq Y (QZ (ov Y) fun hp=>ow Y<|gF hp)<|Za<|K8 2 3 10 12 37 38 39 117 Y<|If h Y (fun h=>?_) fun h=>?_
      ·
       exact K7 2 3 10 12 37 38 39 Y<|Zs<|Rm Y<|Rq Y (Zi (ov Y) Y Y Xx)<|Rq Y (Zj (ov Y) Y Y Y tS9 Y)<|Rq Y (Q3 (ys := [_, _]) ZhK Zhv Zj9 (.cons (cvs (ov Y)<|Zn Y)<|.cons (cvs (ov Y)<|Zn Y) .nil) Y)<|R_q (.sl 31<|List.map R31 ([(api_MapChange.mk x2.Name 3)] : List api_MapChange)) Y (Za6 Zd3 (.cons (cva<|ov Y) Y (pwD Y) .nil) Y Y)<|bE h fun l3 h_l3 h=>Rx Y (Xg (ov Y) (Xk (ov Y) tZ_31) Zd3 Y Y Y (fun _=>Zf Y) Y h_l3)<|Ra Y<|Za<|K6 2 3 10 37 38 39 Y<|Zs<|R2 ZX Y<|Rm Y<|Za<|⟨_, h, ES [some 0]⟩
      ·
       exact Zd<|K6 2 3 10 37 38 39 Y<|Zs<|R2 ZX Y<|Rm Y<|Za<|⟨_, h, ES [some 0]⟩
   ·
    refine Zz<|?_
    replace h := lx h ▸ ho2
    exact ⟨_, h, ES [some 0]⟩
  ·
   refine I1 (fun out4=>⟨[(10, .own 0 out4.length)], [some ⟨31, List.map R31 out4⟩]⟩) h (fun h=>?_) fun out4 h=>?_
   ·
    refine Tr<|Rq Y (Zc (ov Y) Q1)<|Rq Y (Zb (ov Y) Zbv Y)<|Rl tZ_36 Xy Y<|Rm Y<|Za<|Ze<|?_
    obtain ⟨r3, hl3, ho3⟩ := Qu h
    refine L2 (fun out5 i3=>⟨[(2, .rp [.int .i64 a.Version, .sl 36 (List.map R36 a.Params)] 0), (10, .own 0 out5.length), (126, .sl 36 (List.map R36 b.Params)), (127, .int .i64 (b.Params.length : Int)), (128, .int .i64 i3)], [some ⟨31, List.map R31 out5⟩]⟩) hl3 (ES [some 0]) fun n3 out5 i3 h=>?_
    unfold JN at h
    refine Tr<|R2 ZH Y<|Za<|Zh<|If h Y (fun h=>?_) fun h=>?_
    ·
     refine Zd<|Zh<|Ze<|K5 2 10 126 127 128 Y<|Tr<|bE h fun x3 h_x3 h=>Rq Y (Zw (ov Y) (ov Y) Xy h_x3)<|Rq Y (Zg (ov Y) Qi Y Y)<|Rx Y (Zr (row := [_, _, _, _, _, _, _, _]) 1 Y Zcu Y tZ_36)<|Rx Y (Zo (ov Y) (ov Y) (Zl Qi Y) Y Y Y (Nat.le_of_ble_eq_true Y) (Zf Y) Y)<|Za<|K6 2 10 16 126 127 128 Y<|Tr<|Rq Y (Zg (ov Y) ZbE Y Y)<|Rq Y (Zi (ov Y) Y Y Xx)<|Rq Y (Zj (ov Y) Y Y Y tS9 Y)<|bE h fun y7 h_y7 h=>Rq Y (Zp (ZeD h_y7)<|.cons (ov Y) (.aggB Y)<|.cons (ov Y) (.b Y) .nil)<|Rm Y<|Rq Y (ZM (ov Y) Y)<|Rq Y (ZM (ov Y) Y)<|Rx Y (Zr (row := [_, _, _, _, _, _, _, _]) 2 Y Zcu Y tZ_36)<|Rx Y (Zo (ov Y) (ov Y) (Zl Qi Y) Y Y Y (Nat.le_of_ble_eq_true Y) (Zf Y) Y)<|Ra Y<|Za<|K7 2 10 16 18 126 127 128 Y<|Tr<|Rm Y<|R1 Xb Y<|Za<|K7 2 10 16 126 127 128 140 Y<|If h Y (fun h=>?_) fun h=>?_
     ·
      exact K6 2 10 16 126 127 128 Y<|Zs<|Rm Y<|Rq Y (Zi (ov Y) Y Y Xx)<|Rq Y (Zj (ov Y) Y Y Y tS9 Y)<|Rq Y (Q3 (ys := [_, _]) ZhK Zhv Zj9 (.cons (cvs (ov Y)<|Zn Y)<|.cons (cvs (ov Y)<|Zn Y) .nil) Y)<|R_q (.sl 31<|List.map R31 ([(api_MapChange.mk x3.Name 2)] : List api_MapChange)) Y (Za6 Zd3 (.cons (cva<|ov Y) Y (pwD Y) .nil) Y Y)<|bE h fun l4 h_l4 h=>Rx Y (Xg (ov Y) (Xk (ov Y) tZ_31) Zd3 Y Y Y (fun _=>Zf Y) Y h_l4)<|Ra Y<|Za<|K5 2 10 126 127 128 Y<|Zs<|R2 ZX Y<|Rm Y<|Za<|⟨_, h, ES [some 0]⟩
     ·
      exact Zd<|K5 2 10 126 127 128 Y<|Zs<|R2 ZX Y<|Rm Y<|Za<|⟨_, h, ES [some 0]⟩
    ·
     refine Zz<|?_
     replace h := lx h ▸ ho3
     exact ⟨_, h, ES [some 0]⟩
   ·
    refine Tr<|Rm Y<|Ra Y<|Ra Y<|Za<|?_
    obtain rfl := rt h
    exact Zk (Zq Y (.two (.tmp Y<|View.ownM Y Y D31)<|rb Y))
theorem XV {s1 : List api_MapChange} {s2 : List api_MapChange} {r : Bool} (h : ZD s1 s2 = some r) :
 CSpec Try.prog gl0 6 [.sl 31 (List.map R31 s1), .sl 31 (List.map R31 s2)] (.bool r) := by
 unfold ZD at h
 replace h := Qh h
 refine So Try.func6 Y fun w0 A=>Tr<|Ra Y<|Za<|Zh<|K2 0 1 Y<|Tr<|Rm Y<|Rl tZ_31 Zd3 Y<|Rm Y<|Rl tZ_31 Zd3 Y<|R2 Qd Y<|Za<|K3 0 1 10 Y<|If h Y (fun h=>?_) fun h=>?_
 ·
  refine K0<|Tr<|Ra Y<|Za<|?_
  obtain rfl := rt h
  exact Zk (Zq Y (.one<|rb Y))
 ·
  refine Zd<|J0 (fun j => (.inr j)) ⟨[], []⟩ h (fun h=>?_) fun h=>?_
  ·
   refine K2 0 1 Y<|Tr<|Rm Y<|Rl tZ_31 Zd3 Y<|Rm Y<|Za<|Ze<|?_
   obtain ⟨r1, hl1, ho1⟩ := Qu h
   refine L1 (fun i=>⟨[(0, .sl 31 (List.map R31 s1)), (1, .sl 31 (List.map R31 s2)), (12, .int .i64 (s1.length : Int)), (13, .int .i64 i)], []⟩) hl1 (ES []) fun n1 i h=>?_
   unfold ZI at h
   refine Tr<|R2 ZH Y<|Za<|Zh<|If h Y (fun h=>?_) fun h=>?_
   ·
    refine Zd<|Zh<|Ze<|K4 0 1 12 13 Y<|Tr<|Rm Y<|Ra Y<|Za<|K5 0 1 5 12 13 Y<|Td md0<|D1 0 Zm Y<|D1 1 Zm Y<|bE h fun x h_x h=>Dq 2 Y (Zw (ov Y) (ov Y) Zd3 h_x)<|Dq 3 Y (Zg (ov Y) Zl0 Y Y)<|D1 4 Zm Y<|D1 5 Zm Y<|bE h fun x2 h_x2 h=>Dq 6 Y (Zw (ov Y) (ov Y) Zd3 h_x2)<|Dq 7 Y (Zg (ov Y) Zl0 Y Y)<|Dq 8 Y (Zh8 ZlR (ov Y) (ov Y) (.aggB Y) (.aggB Y) Y Y)<|Dd<|K5 0 1 12 13 24 Y<|If h Y (fun h=>?_) fun h=>?_
    ·
     refine K0<|Tr<|Ra Y<|Za<|?_
     replace h := lx h ▸ ho1
     obtain rfl := rt h
     exact Zk (Zq Y (.one<|rb Y))
    ·
     exact Zd<|K4 0 1 12 13 Y<|Zs<|R2 ZX Y<|Rm Y<|Za<|⟨_, h, ES []⟩
   ·
    refine Zz<|?_
    replace h := lx h ▸ ho1
    exact ⟨_, h, ES []⟩
  ·
   replace h := elr h
   replace h := t0i h
   refine Tr<|Ra Y<|Za<|?_
   obtain rfl := rt h
   exact Zk (Zq Y (.one<|rb Y))
theorem Zde {m : api_Map} {r : (List api_Cell)} (h : JV m = some r) :
 CSpec Try.prog gl0 33 [.agg [.int .i64 m.Version, .sl 36 (List.map R36 m.Params)]] (.sl 71 (List.map R71 r)) := by
 unfold JV at h
 replace h := Qh h
 refine So Try.func33 Y fun w0 A=>Tr<|Rq Y (Z3 (cva<|ov Y) Y tZ_24 Y)<|Ra Y<|Za<|K1 1 Y<|Tr<|Ra Y<|Za<|I1 (fun out=>⟨[(3, .own 0 out.length)], [some ⟨71, List.map R71 out⟩]⟩) h (fun h=>?_) fun out h=>?_
 ·
  refine Tr<|Rq Y (Zc (ov Y) Q1)<|Rq Y (Zb (ov Y) Zbv Y)<|Rl tZ_36 Xy Y<|Rm Y<|Za<|Ze<|?_
  obtain ⟨r1, hl1, ho1⟩ := Qu h
  refine L2 (fun out2 i=>⟨[(3, .own 0 out2.length), (7, .sl 36 (List.map R36 m.Params)), (8, .int .i64 (m.Params.length : Int)), (9, .int .i64 i)], [some ⟨71, List.map R71 out2⟩]⟩) hl1 (ES [none]) fun n1 out2 i h=>?_
  unfold Zao at h
  refine Tr<|R2 ZH Y<|Za<|Zh<|If h Y (fun h=>?_) fun h=>?_
  ·
   exact Zd<|Zh<|Ze<|K4 3 7 8 9 Y<|Tr<|Rm Y<|bE h fun x h_x h=>Rq Y (Zw (ov Y) (ov Y) Xy h_x)<|Rq Y (Zg (ov Y) Qi Y Y)<|Rx Y (Zr (row := [_, _, _, _, _, _, _, _]) 1 Y Zcu Y tZ_36)<|Ra Y<|Rx Y (Zo (ov Y) (ov Y) (Zl Qi Y) Y Y Y (Nat.le_of_ble_eq_true Y) (Zf Y) Y)<|Za<|K6 3 4 5 7 8 9 Y<|Zs<|Rm Y<|Rm Y<|Rq Y (Z0 (ov Y) Y Y Y Qi Y Y)<|bE h fun y h_y h=>Rq Y (Zp (ZaF h_y)<|.cons (ov Y) (.b Y)<|.cons (ov Y) (.aggB Y) .nil)<|bE h fun l h_l h=>Rx Y (ZiT (ov Y) (Xk (ov Y) tZ_71) Zcm Y Y (fun _=>Zf Y) Y h_l)<|Ra Y<|Za<|K4 3 7 8 9 Y<|Zs<|R2 ZX Y<|Rm Y<|Za<|⟨_, h, ES [some 0]⟩
  ·
   refine Zz<|?_
   replace h := lx h ▸ ho1
   exact ⟨_, h, ES [some 0]⟩
 ·
  refine Tr<|Rm Y<|Ra Y<|Za<|?_
  obtain rfl := rt h
  exact Zk (Zq Y (.one<|.tmp Y<|View.ownM Y Y D71))
theorem ZdA {v : Int} {r : Int} (h : ZaY v = some r) :
 CSpec Try.prog gl0 52 [.int .i64 v] (.int .i64 r) := by
 unfold ZaY at h
 replace h := Qh h
 refine So Try.func52 Y fun w0 A=>Tr<|Ra Y<|Za<|Tr<|Rm Y<|Ra Y<|Za<|?_
 obtain rfl := rt h
 exact Zk (Zq Y (.one<|rb Y))
theorem ZcR {raw : Int} {c0 : Int} {r : Int × Bool} (h : JZ raw c0 = some r) :
 CSpec Try.prog gl0 54 [.int .i64 raw, .rp [.int .i64 c0] 0] (.tuple [.int .i64 r.1, .bool r.2]) := by
 unfold JZ at h
 replace h := Qh h
 refine So Try.func54 Y fun w0 A=>Tr<|Ra Y<|Ra Y<|Za<|Td md0<|D1 0 Zm Y<|D1 1 Zm Y<|Dq 2 Y (Zb (ov Y) tS3 Y)<|D2 3 Zgx Y<|D1 4 Jg Y<|D1 5 Jg Y<|Dd<|?_
 obtain rfl := rt h
 exact Zk (Zq Y (.two (rb Y)<|rb Y))
theorem JB {high : Int} {r : layout_number} (h : Qn high = some r) :
 CSpec Try.prog gl0 53 [.int .i64 high, .rp [.fn 52 []] 0] (.agg [.int .i64 r.low, .int .i64 r.high, .fn r.encode.f r.encode.c, .fn r.decode.f r.decode.c]) := by
 unfold Qn at h
 replace h := Qh h
 refine So Try.func53 Y fun w0 A=>Tr<|Rq Y (Z3 (cvs (ov Y)<|Zn Y) Y tZ_3 Y)<|Rx Y (Zr (row := [_, _, _, _]) 0 Y Zfz Y tZ_81)<|Za<|K3 1 2 3 Y<|Tr<|Rq Y (Zb (ov Y) tS3 Y)<|Rq Y (Zb (ov Y) Zlf Y)<|Rq Y (Qt<|.cons (ov Y) .nil)<|Rq Y (Q3 (ys := [_, _, _, _]) ZiF Ziu Zfz (.cons (cvs (ov Y)<|Zn Y)<|.cons (cvs (ov Y)<|Zn Y)<|.cons (cvs (ov Y)<|Zn Y)<|.cons (cvs (ov Y)<|Zn Y) .nil) Y)<|Rx Y (Zo (ov Y) (ov Y) (Zl Zbi Y) Y Y Y (Nat.le_of_ble_eq_true Y) (Zf Y) Y)<|Za<|?_
 obtain rfl := rt h
 exact Zk (Zq Y (.one<|.agg Y Y Y Y Zbi Y Y<|.cons (Dat.view<|.b Y)<|.cons (Dat.view<|.b Y)<|.cons (Dat.view .fn)<|.cons (Dat.view<|.fnC<|.cons (.b Y) .nil) .nil))
theorem ZA {high : Int} {r : layout_number} (h : Qn high = some r) : ZbL r.encode ∧ ZbJ r.decode := by
  have key : Zdp (fun r => ZbL r.encode ∧ ZbJ r.decode) (Qn high) := by
    unfold Qn
    repeat' (first | exact ZbN | with_reducible refine Zdz ?_ ?_ | with_reducible refine Zcd fun _ _ => ?_ | with_reducible refine ZfJ ?_)
    all_goals first | exact JR ⟨⟨rfl, fun z0 _ hz => ZdA hz⟩, ⟨rfl, fun z0 _ hz => ZcR hz⟩⟩
  exact key r h
theorem ZdR {c1 : Int} {r : layout_number} (h : Q5 c1 = some r) :
 CSpec Try.prog gl0 55 [.rp [.fn 53 [.rp [.fn 52 []] 0]] 0, .rp [.int .i64 c1] 0] (.agg [.int .i64 r.low, .int .i64 r.high, .fn r.encode.f r.encode.c, .fn r.decode.f r.decode.c]) := by
 unfold Q5 at h
 replace h := Qh h
 refine So Try.func55 Y fun w0 A=>Tr<|Rx Y (Zr (row := [_, _, _, _]) 0 Y Zfz Y tZ_81)<|Za<|Tr<|Rq Y (Zb (ov Y) ZkJ Y)<|Rq Y (Zb (ov Y) tS3 Y)<|R2 ZhN Y<|R2 Zdf Y<|bE h fun y h_y h=>Rq Y (Jw (ov Y) Y (JB h_y)<|.cons (ov Y) (.b Y) .nil)<|Rx Y (Zo (ov Y) (ov Y) (Zl Zbi Y) Y Y Y (Nat.le_of_ble_eq_true Y) (Zf Y) Y)<|Za<|?_
 obtain rfl := rt h
 exact Zk (Zq Y (.one<|.agg Y Y Y Y Zbi Y Y<|.cons (Dat.view<|.b Y)<|.cons (Dat.view<|.b Y)<|.cons (Dat.view<|Dat.fnC<|.refl fun x hx => .b<|List.all_eq_true.1 (((ZA h_y).1)).1 x hx)<|.cons (Dat.view<|Dat.fnC<|.refl fun x hx => .b<|List.all_eq_true.1 (((ZA h_y).2)).1 x hx) .nil))
theorem Xq {c1 : Int} {r : layout_number} (h : Q5 c1 = some r) : ZbL r.encode ∧ ZbJ r.decode := by
  have key : Zdp (fun r => ZbL r.encode ∧ ZbJ r.decode) (Q5 c1) := by
    unfold Q5
    repeat' (first | exact ZbN | with_reducible refine Zdz ?_ ?_ | with_reducible refine Zcd fun _ _ => ?_ | with_reducible refine ZfJ ?_)
    all_goals first | exact JR ⟨((ZA (by assumption)).1), ((ZA (by assumption)).2)⟩
  exact key r h
theorem Zdk  {r : layout_number} (h : Q8  = some r) :
 CSpec Try.prog gl0 56 [.rp [.fn 53 [.rp [.fn 52 []] 0]] 0] (.agg [.int .i64 r.low, .int .i64 r.high, .fn r.encode.f r.encode.c, .fn r.decode.f r.decode.c]) := by
 unfold Q8 at h
 replace h := Qh h
 refine So Try.func56 Y fun w0 A=>Tr<|Rx Y (Zr (row := [_, _, _, _]) 0 Y Zfz Y tZ_81)<|Za<|Tr<|Rq Y (Zb (ov Y) ZkJ Y)<|bE h fun y h_y h=>Rq Y (Jw (ov Y) Y (JB h_y)<|.cons (ov Y) (.b Y) .nil)<|Rx Y (Zo (ov Y) (ov Y) (Zl Zbi Y) Y Y Y (Nat.le_of_ble_eq_true Y) (Zf Y) Y)<|Za<|?_
 obtain rfl := rt h
 exact Zk (Zq Y (.one<|.agg Y Y Y Y Zbi Y Y<|.cons (Dat.view<|.b Y)<|.cons (Dat.view<|.b Y)<|.cons (Dat.view<|Dat.fnC<|.refl fun x hx => .b<|List.all_eq_true.1 (((ZA h_y).1)).1 x hx)<|.cons (Dat.view<|Dat.fnC<|.refl fun x hx => .b<|List.all_eq_true.1 (((ZA h_y).2)).1 x hx) .nil))
theorem Xo  {r : layout_number} (h : Q8  = some r) : ZbL r.encode ∧ ZbJ r.decode := by
  have key : Zdp (fun r => ZbL r.encode ∧ ZbJ r.decode) (Q8 ) := by
    unfold Q8
    repeat' (first | exact ZbN | with_reducible refine Zdz ?_ ?_ | with_reducible refine Zcd fun _ _ => ?_ | with_reducible refine ZfJ ?_)
    all_goals first | exact JR ⟨((ZA (by assumption)).1), ((ZA (by assumption)).2)⟩
  exact key r h
theorem Zdo {c1 : api_Param} {r : layout_number} (h : Q4 c1 = some r) :
 CSpec Try.prog gl0 57 [.rp [.fn 53 [.rp [.fn 52 []] 0]] 0, .rp [.str c1.Name, .int .i64 c1.Kind, .sl 49 (List.map R49 c1.Parts), .int .i64 c1.First, .int .i64 c1.Every, .int .i64 c1.Times, .int .i64 c1.Step, .sl 9 (List.map R9 c1.Names)] 0] (.agg [.int .i64 r.low, .int .i64 r.high, .fn r.encode.f r.encode.c, .fn r.decode.f r.decode.c]) := by
 unfold Q4 at h
 replace h := Qh h
 refine So Try.func57 Y fun w0 A=>Tr<|Rx Y (Zr (row := [_, _, _, _]) 0 Y Zfz Y tZ_81)<|Za<|Tr<|Rq Y (Zb (ov Y) ZkJ Y)<|Rq Y (Zc (ov Y) X3)<|Rq Y (Zb (ov Y) Zc1 Y)<|Rl tZ_9 ZaX Y<|R2 Zdf Y<|bE h fun y h_y h=>Rq Y (Jw (ov Y) Y (JB h_y)<|.cons (ov Y) (.b Y) .nil)<|Rx Y (Zo (ov Y) (ov Y) (Zl Zbi Y) Y Y Y (Nat.le_of_ble_eq_true Y) (Zf Y) Y)<|Za<|?_
 obtain rfl := rt h
 exact Zk (Zq Y (.one<|.agg Y Y Y Y Zbi Y Y<|.cons (Dat.view<|.b Y)<|.cons (Dat.view<|.b Y)<|.cons (Dat.view<|Dat.fnC<|.refl fun x hx => .b<|List.all_eq_true.1 (((ZA h_y).1)).1 x hx)<|.cons (Dat.view<|Dat.fnC<|.refl fun x hx => .b<|List.all_eq_true.1 (((ZA h_y).2)).1 x hx) .nil))
theorem Xs {c1 : api_Param} {r : layout_number} (h : Q4 c1 = some r) : ZbL r.encode ∧ ZbJ r.decode := by
  have key : Zdp (fun r => ZbL r.encode ∧ ZbJ r.decode) (Q4 c1) := by
    unfold Q4
    repeat' (first | exact ZbN | with_reducible refine Zdz ?_ ?_ | with_reducible refine Zcd fun _ _ => ?_ | with_reducible refine ZfJ ?_)
    all_goals first | exact JR ⟨((ZA (by assumption)).1), ((ZA (by assumption)).2)⟩
  exact key r h
theorem Zc8 {v : Int} {c0 : Int} {r : Int} (h : JY v c0 = some r) :
 CSpec Try.prog gl0 59 [.int .i64 v, .rp [.int .i64 c0] 0] (.int .i64 r) := by
 unfold JY at h
 replace h := Qh h
 refine So Try.func59 Y fun w0 A=>Tr<|Ra Y<|Za<|Tr<|Rm Y<|Rq Y (Zb (ov Y) tS3 Y)<|R2 ZhN Y<|R2 Zdf Y<|R2 Zg0 Y<|Ra Y<|Za<|?_
 obtain rfl := rt h
 exact Zk (Zq Y (.one<|rb Y))
theorem ZcV {raw : Int} {c0 : Int} {r : Int × Bool} (h : J4 raw c0 = some r) :
 CSpec Try.prog gl0 60 [.int .i64 raw, .rp [.int .i64 c0] 0] (.tuple [.int .i64 r.1, .bool r.2]) := by
 unfold J4 at h
 replace h := Qh h
 refine So Try.func60 Y fun w0 A=>Tr<|Ra Y<|Ra Y<|Za<|Zh<|K2 0 1 Y<|Tr<|Rm Y<|Rq Y (Zb (ov Y) tS3 Y)<|R2 Zb9 Y<|Za<|K3 0 1 7 Y<|If h Y (fun h=>?_) fun h=>?_
 ·
  refine K2 0 1 Y<|Zs<|Rm Y<|Rq Y (Zb (ov Y) tS3 Y)<|R2 ZhN Y<|R2 Zdf Y<|Ra Y<|Za<|K1 0 Y<|Tr<|Rm Y<|Ra Y<|Ra Y<|Za<|?_
  obtain rfl := rt h
  exact Zk (Zq Y (.two (rb Y)<|rb Y))
 ·
  refine Zd<|K1 0 Y<|Tr<|Rm Y<|Ra Y<|Ra Y<|Za<|?_
  obtain rfl := rt h
  exact Zk (Zq Y (.two (rb Y)<|rb Y))
theorem ZdQ {c0 : Int} {r : layout_number} (h : Qm c0 = some r) :
 CSpec Try.prog gl0 58 [.rp [.int .i64 c0] 0] (.agg [.int .i64 r.low, .int .i64 r.high, .fn r.encode.f r.encode.c, .fn r.decode.f r.decode.c]) := by
 unfold Qm at h
 replace h := Qh h
 refine So Try.func58 Y fun w0 A=>Tr<|Rx Y (Zr (row := [_, _, _, _]) 0 Y Zfz Y tZ_81)<|Za<|Tr<|Rq Y (Zb (ov Y) tS3 Y)<|Rq Y (ZlT (ov Y) Y)<|Rq Y (Zb (ov Y) tS3 Y)<|R2 Zdf Y<|Rq Y (Qt<|.cons (ov Y) .nil)<|Rq Y (Qt<|.cons (ov Y) .nil)<|Rq Y (Q3 (ys := [_, _, _, _]) ZiF Ziu Zfz (.cons (cvs (ov Y)<|Zn Y)<|.cons (cvs (ov Y)<|Zn Y)<|.cons (cvs (ov Y)<|Zn Y)<|.cons (cvs (ov Y)<|Zn Y) .nil) Y)<|Rx Y (Zo (ov Y) (ov Y) (Zl Zbi Y) Y Y Y (Nat.le_of_ble_eq_true Y) (Zf Y) Y)<|Za<|?_
 obtain rfl := rt h
 exact Zk (Zq Y (.one<|.agg Y Y Y Y Zbi Y Y<|.cons (Dat.view<|.b Y)<|.cons (Dat.view<|.b Y)<|.cons (Dat.view<|.fnC<|.cons (.b Y) .nil)<|.cons (Dat.view<|.fnC<|.cons (.b Y) .nil) .nil))
theorem Xr {c0 : Int} {r : layout_number} (h : Qm c0 = some r) : ZbL r.encode ∧ ZbJ r.decode := by
  have key : Zdp (fun r => ZbL r.encode ∧ ZbJ r.decode) (Qm c0) := by
    unfold Qm
    repeat' (first | exact ZbN | with_reducible refine Zdz ?_ ?_ | with_reducible refine Zcd fun _ _ => ?_ | with_reducible refine ZfJ ?_)
    all_goals first | exact JR ⟨⟨rfl, fun z0 _ hz => Zc8 hz⟩, ⟨rfl, fun z0 _ hz => ZcV hz⟩⟩
  exact key r h
theorem ZcW {v : Int} {c0 : Int} {r : Int} (h : J9 v c0 = some r) :
 CSpec Try.prog gl0 62 [.int .i64 v, .rp [.int .i64 c0] 0] (.int .i64 r) := by
 unfold J9 at h
 replace h := Qh h
 refine So Try.func62 Y fun w0 A=>Tr<|Ra Y<|Za<|Zh<|K2 0 1 Y<|Tr<|Rm Y<|R2 ZH Y<|Za<|K3 0 1 5 Y<|If h Y (fun h=>?_) fun h=>?_
 ·
  refine K2 0 1 Y<|Tr<|Rq Y (Zb (ov Y) tS3 Y)<|Rm Y<|R2 Zdf Y<|Ra Y<|Za<|?_
  obtain rfl := rt h
  exact Zk (Zq Y (.one<|rb Y))
 ·
  refine Zd<|K1 0 Y<|Tr<|Rm Y<|Ra Y<|Za<|?_
  obtain rfl := rt h
  exact Zk (Zq Y (.one<|rb Y))
end Go.Proofs.Ytagddpmlkcgbaaa
